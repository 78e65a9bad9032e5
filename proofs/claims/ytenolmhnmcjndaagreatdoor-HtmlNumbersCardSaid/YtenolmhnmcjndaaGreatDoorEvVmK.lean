/-
  The machine's operations on the heap: addresses, loads, stores, new blocks.
  The machine's operations on the heap: new variables, values of parts, new rows, texts gone through.
  The machine's operations on the heap: rows made, slices of slices, texts gone through, functions, interfaces, maps.
  The machine's operations on the heap: append.
  The machine's operations on the heap: conversions, functions, interfaces, maps, calls.
  The machine's operations: functions, interfaces, maps, calls; one body for each operation.
  The machine's operations: calls, append, len; one body for each operation.
-/
import Derived.Test.YtenolmhnmcjndaaGreatDoorEvVmD
namespace Go.Proofs.YtenolmhnmcjndaaGreatDoor.Ev
set_option linter.unusedVariables false
set_option linter.unusedSimpArgs false
open Go

/-! ### Rows, laid and written -/
/-- A list, laid into a tree from a place on. -/
noncomputable def setL (l : List FV) : (Q FV → Bool) → Nat → Q FV → Bool :=
  List.rec (motive := fun _ => (Q FV → Bool) → Nat → Q FV → Bool) (fun k _ t => k t) (fun x _ ih k i t => Q.setK x t (ih k (Nat.succ i)) i) l
theorem setL_ok {n : Nat} : ∀ (l : List FV) (k : Q FV → Bool) (i : Nat) (t : Q FV) (C : Array Value), C.size = n → i + l.length ≤ n → (∀ j f, t.get j = some f → C[j]? = some (FV.val f)) → setL l k i t = true →
    ∃ t' : Q FV, (∀ j f, t'.get j = some f → (writeCells C i (FV.vals l))[j]? = some (FV.val f)) ∧ k t' = true
  | [], k, i, t, C, hC, hl, h, hk => ⟨t, h, hk⟩
  | x :: r, k, i, t, C, hC, hl, h, hk => by
    have hk : Q.setK x t (setL r k (Nat.succ i)) i = true := hk
    obtain ⟨t1, h1, h2⟩ := Q.setK_ok hk
    simp only [List.length_cons] at hl
    refine setL_ok r k (i + 1) t1 (C.setIfInBounds i x.val) (by simpa using hC) (by omega) (fun j f hj => ?_) h1
    rw [h2] at hj
    rw [Array.getElem?_setIfInBounds]
    split at hj
    · rename_i e; subst e; cases hj; rw [if_pos rfl, if_pos (by omega)]
    · rename_i e; rw [if_neg (fun e2 => e e2.symm)]; exact h j f hj
theorem writeCells_all : ∀ (l : List Value) (C : Array Value) (i : Nat), i + l.length ≤ C.size → (writeCells C i l).toList = C.toList.take i ++ l ++ C.toList.drop (i + l.length)
  | [], C, i, h => by simp [writeCells]
  | v :: r, C, i, h => by
    simp only [List.length_cons] at h
    rw [writeCells, writeCells_all r _ _ (by simp; omega)]
    have e : (C.setIfInBounds i v).toList = C.toList.set i v := by simp
    rw [e, List.take_set, List.drop_set]
    have h1 : (C.toList.take (i + 1)).set i v = C.toList.take i ++ [v] := by
      rw [List.take_succ_eq_append_getElem (by simp; omega), List.set_append_right _ _ (by simp; omega)]
      simp
      rw [Nat.min_eq_left (by omega)]
      simp
    rw [h1, if_pos (by omega)]
    simp [List.append_assoc, Nat.add_assoc, Nat.add_comm 1]
/-- A new row. -/
noncomputable def layL (k : Q FV → Bool) (l : List FV) : Bool := setL l k 0 Q.emp
theorem layL_ok {k : Q FV → Bool} {l : List FV} (h : layL k l = true) : ∃ t : Q FV, (∀ j f, t.get j = some f → (FV.vals l)[j]? = some (FV.val f)) ∧ k t = true := by
  obtain ⟨t, h1, h2⟩ := setL_ok (n := l.length) l k 0 Q.emp (Array.replicate l.length undef) (by simp) (by omega) (fun j f hj => by cases hj) h
  refine ⟨t, fun j f hj => ?_, h2⟩
  have := h1 j f hj
  have e := writeCells_all (FV.vals l) (Array.replicate l.length undef) 0 (by simp [FV.vals_eq])
  rw [← Array.getElem?_toList, e] at this
  simp only [List.take_zero, List.nil_append, Nat.zero_add] at this
  rw [List.drop_eq_nil_of_le (by simp [FV.vals_eq]), List.append_nil] at this
  exact this
noncomputable def layR {R : Type} (z : R) (l : List FV) : (Q FV → R) → Nat → Q FV → R :=
  List.rec (motive := fun _ => (Q FV → R) → Nat → Q FV → R) (fun k _ t => k t) (fun x _ ih k i t => setR z x t (ih k (Nat.succ i)) i) l
theorem layR_ok {R : Type} {z : R} : ∀ (l : List FV) (k : Q FV → R) (i : Nat) (t : Q FV) (l0 : List Value), l0.length = i → (∀ j f, t.get j = some f → l0[j]? = some (FV.val f)) →
    layR z l k i t = z ∨ ∃ t' : Q FV, layR z l k i t = k t' ∧ ∀ j f, t'.get j = some f → (l0 ++ FV.vals l)[j]? = some (FV.val f)
  | [], k, i, t, l0, hl, h => .inr ⟨t, rfl, by simpa [FV.vals] using h⟩
  | x :: r, k, i, t, l0, hl, h => by
    have e0 : layR z (x :: r) k i t = setR z x t (layR z r k (i + 1)) i := rfl
    rw [e0]
    rcases setR_ok (z := z) (x := x) (t := t) (k := layR z r k (i + 1)) (n := i) with h1 | ⟨t1, h1, h2⟩
    · exact .inl h1
    · rw [h1]
      rcases layR_ok (z := z) r k (i + 1) t1 (l0 ++ [x.val]) (by simp [hl]) (fun j f hj => by
        rw [h2] at hj
        split at hj
        · rename_i e; subst e; cases hj; rw [List.getElem?_append_right (by omega)]; simp [hl]
        · have := h j f hj
          rw [List.getElem?_append_left (List.getElem?_eq_some_iff.1 this).1]
          exact this) with h3 | ⟨t', h3, h4⟩
      · exact .inl h3
      · exact .inr ⟨t', h3, by simpa [FV.vals] using h4⟩

section
variable {E : Type} {I : EnvI E} {n : Nat} {P : Program}

/-! ### Addresses -/
noncomputable def addP (k : FV → FH → Bool) (F : FH) (c o : Nat) : Bool := k (.pp c o) F
noncomputable def fieldAS (I : EnvI E) (n : Nat) (P : Program) (s : TypeId) (x : Operand) (f : Nat) : BodyK E :=
  match P.underlying s with
  | some (.struct fields) => match fields[f]? with
    | some fl => match Nat.beq (szT P fl.type) 0 with
      | true => ⟨fun _ _ _ _ => false⟩
      | false => natR (fun off => GetK.rec (motive := fun _ => BodyK E) (fun gx => ⟨fun _ k t F => onP (fun c o => natK (addP k F c) (Nat.add o off)) false (gx t)⟩) (opdS I n x)) fl.offset
    | none => ⟨fun _ _ _ _ => false⟩
  | _ => ⟨fun _ _ _ _ => false⟩
theorem addr_add (c o m : Nat) : (⟨c, o, none⟩ : Addr).add m = ⟨c, o + m, none⟩ := by unfold Addr.add; split <;> simp_all
theorem fieldAS_ok {o : Oper} {s : TypeId} {x : Operand} {f : Nat} (ho : o.op = .fieldAddr s x f) : BodyFlat I n P o (fieldAS I n P s x f) := fun call e en F k hr h => by
  unfold fieldAS at h
  split at h
  case h_2 => cases h
  rename_i fields hu
  split at h
  case h_2 => cases h
  rename_i fl hf
  split at h
  case h_1 => cases h
  rename_i hz
  rw [natR_eq] at h
  have h : onP (fun c o => natK (addP k F c) (Nat.add o fl.offset)) false ((opdS I n x).run e) = true := h
  rcases onP_ok h with ⟨c, off, hx, h⟩ | h
  · rw [natK_eq] at h
    refine ⟨_, fun ca H _ => ?_, h⟩
    have hx : rho en x = .pointer (some ⟨c, off, none⟩) := by rw [← opdS_ok hr, hx]; rfl
    unfold evOp
    simp only [ho, fieldAddrA, hu, hx, hf, hz, cond_false, Option.map_some, FV.val, addr_add]
    rfl
  · cases h
noncomputable def idxA2 (k : FV → FH → Bool) (F : FH) (sz c o n i : Nat) : Bool := ifK (natK (addP k F c) (Nat.add o (Nat.mul i sz))) (Nat.ble (Nat.succ i) n)
noncomputable def idxA1 (k : FV → FH → Bool) (F : FH) (sz : Nat) (y : FV) (c o n m : Nat) : Bool := onX (idxA2 k F sz c o n) y
noncomputable def idxP1 (k : FV → FH → Bool) (F : FH) (sz n : Nat) (y : FV) (c o : Nat) : Bool := onX (idxA2 k F sz c o n) y
noncomputable def indexAS (I : EnvI E) (n : Nat) (P : Program) (t : TypeId) (x y : Operand) : BodyK E :=
  match P.underlying t with
  | some (.slice el) => match Nat.beq (szT P el) 0 with
    | true => ⟨fun _ _ _ _ => false⟩
    | false => natR (fun sz => GetK.rec (motive := fun _ => BodyK E) (fun gx => GetK.rec (motive := fun _ => BodyK E) (fun gy => ⟨fun _ k t F => onL (idxA1 k F sz (gy t)) (fun _ => false) false (gx t)⟩) (opdS I n y)) (opdS I n x)) (szT P el)
  | some (.array m el) => match Nat.beq (szT P el) 0 with
    | true => ⟨fun _ _ _ _ => false⟩
    | false => natR (fun m => natR (fun sz => GetK.rec (motive := fun _ => BodyK E) (fun gx => GetK.rec (motive := fun _ => BodyK E) (fun gy => ⟨fun _ k t F => onP (idxP1 k F sz m (gy t)) false (gx t)⟩) (opdS I n y)) (opdS I n x)) (szT P el)) m
  | _ => ⟨fun _ _ _ _ => false⟩
theorem beq_ne {a : Nat} (h : Nat.beq a 0 = false) : a ≠ 0 := fun e => by rw [e] at h; cases h
theorem indexAS_ok {o : Oper} {t : TypeId} {x y : Operand} (ho : o.op = .indexAddr t x y) : BodyFlat I n P o (indexAS I n P t x y) := fun call e en F k hr h => by
  unfold indexAS at h
  split at h
  · rename_i el hu
    split at h
    · cases h
    rename_i hz
    have hz := beq_ne hz
    rw [natR_eq] at h
    have h : onL (idxA1 k F (szT P el) ((opdS I n y).run e)) (fun _ => false) false ((opdS I n x).run e) = true := h
    rcases onL_ok h with ⟨c, off, m, cap, hx, h⟩ | ⟨_, _, h⟩ | h
    · obtain ⟨kd, i, hy, h⟩ := onX_ok h
      · obtain ⟨h1, h2⟩ := ifK_ok h
        rw [natK_eq] at h2
        have h1 : i < m := Nat.le_of_ble_eq_true h1
        refine ⟨_, fun ca H _ => ?_, h2⟩
        have hx : rho en x = .slice (some ⟨c, off, none⟩) m cap := by rw [← opdS_ok hr, hx]; rfl
        have hy : rho en y = .int kd (Int.ofNat i) := by rw [← opdS_ok hr, hy]
        have hc : (0 : Int) ≤ Int.ofNat i ∧ Int.ofNat i < (m : Int) ∧ szT P el ≠ 0 := ⟨Int.natCast_nonneg i, by simpa using h1, hz⟩
        unfold evOp
        simp only [ho, indexAddrA, hu, hx, hy, if_pos hc, Option.map_some, FV.val, addr_add]
        rfl
    · cases h
    · cases h
  · rename_i m el hu
    split at h
    · cases h
    rename_i hz
    have hz := beq_ne hz
    rw [natR_eq, natR_eq] at h
    have h : onP (idxP1 k F (szT P el) m ((opdS I n y).run e)) false ((opdS I n x).run e) = true := h
    rcases onP_ok h with ⟨c, off, hx, h⟩ | h
    · obtain ⟨kd, i, hy, h⟩ := onX_ok h
      · obtain ⟨h1, h2⟩ := ifK_ok h
        rw [natK_eq] at h2
        have h1 : i < m := Nat.le_of_ble_eq_true h1
        refine ⟨_, fun ca H _ => ?_, h2⟩
        have hx : rho en x = .pointer (some ⟨c, off, none⟩) := by rw [← opdS_ok hr, hx]; rfl
        have hy : rho en y = .int kd (Int.ofNat i) := by rw [← opdS_ok hr, hy]
        have hc : (0 : Int) ≤ Int.ofNat i ∧ Int.ofNat i < (m : Int) ∧ szT P el ≠ 0 := ⟨Int.natCast_nonneg i, by simpa using h1, hz⟩
        unfold evOp
        simp only [ho, indexAddrA, hu, hx, hy, if_pos hc, Option.map_some, FV.val, addr_add]
        rfl
    · cases h
  · cases h
noncomputable def nilS (I : EnvI E) (n : Nat) (x : Operand) : BodyK E := GetK.rec (motive := fun _ => BodyK E) (fun gx => ⟨fun _ k t F => onP (addP k F) (onF (fun f cs => k (.ff f cs) F) false (gx t)) (gx t)⟩) (opdS I n x)
theorem nilS_ok {o : Oper} {x : Operand} (ho : o.op = .nilCheck x) : BodyFlat I n P o (nilS I n x) := fun call e en F k hr h => by
  have h : onP (addP k F) (onF (fun f cs => k (.ff f cs) F) false ((opdS I n x).run e)) ((opdS I n x).run e) = true := h
  rcases onP_ok h with ⟨c, off, hx, h⟩ | h
  · refine ⟨_, fun ca H _ => ?_, h⟩
    have hx : rho en x = .pointer (some ⟨c, off, none⟩) := by rw [← opdS_ok hr, hx]; rfl
    unfold evOp
    simp only [ho, hx]; rfl
  · rcases onF_ok h with ⟨f, cs, hx, h⟩ | h
    · refine ⟨_, fun ca H _ => ?_, h⟩
      have hx : rho en x = .func (.func f) #[] (FV.vals cs).toArray := by rw [← opdS_ok hr, hx]; rfl
      unfold evOp
      simp only [ho, hx]; rfl
    · cases h

/-! ### Loads -/
noncomputable def aggK (k : FV → FH → Bool) (F : FH) (l : List FV) : Bool := k (.aa l) F
noncomputable def aggS (I : EnvI E) (n : Nat) (P : Program) (t : TypeId) (x : Operand) : BodyK E :=
  natR (fun sz => GetK.rec (motive := fun _ => BodyK E) (fun gx => ⟨fun _ k t F => onP (fun c o => cellsK (aggK k F) F c o sz) false (gx t)⟩) (opdS I n x)) (szT P t)
noncomputable def load1S (I : EnvI E) (n : Nat) (x : Operand) : BodyK E := GetK.rec (motive := fun _ => BodyK E) (fun gx => ⟨fun _ k t F => onP (cellK (fun v => k v F) F) false (gx t)⟩) (opdS I n x)
noncomputable def loadS (I : EnvI E) (n : Nat) (P : Program) (t : TypeId) (x : Operand) : BodyK E :=
  match P.underlying t with
  | some (.struct _) => aggS I n P t x
  | some (.array _ _) => aggS I n P t x
  | some _ => load1S I n x
  | none => ⟨fun _ _ _ _ => false⟩
theorem extract_vals {C : Array Value} {off m : Nat} {l : List FV} (h : (C.toList.drop off).take m = FV.vals l) : C.extract off (off + m) = (FV.vals l).toArray := by
  apply Array.ext'
  rw [Array.toList_extract, List.extract_eq_take_drop, ← h, show off + m - off = m by omega]
theorem aggS_ok {call : CallT} {k : FV → FH → Bool} {x : Operand} {t : TypeId} {e : E} {en : List Value} {F : FH} {H : AH} (hr : REv I n e en) (hH : HR F H) (h : (aggS I n P t x).run call k e F = true) :
    ∃ c off C el fr l, rho en x = .pointer (some ⟨c, off, none⟩) ∧ H.cells c = some (C, el, fr) ∧ off + szT P t ≤ C.size ∧ C.extract off (off + szT P t) = (FV.vals l).toArray ∧ k (.aa l) F = true := by
  unfold aggS at h
  rw [natR_eq] at h
  have h : onP (fun c o => cellsK (aggK k F) F c o (szT P t)) false ((opdS I n x).run e) = true := h
  rcases onP_ok h with ⟨c, off, hx, h⟩ | h
  · obtain ⟨C, el, fr, l, h1, h2, h3, h4, h5⟩ := cellsK_ok hH h
    exact ⟨c, off, C, el, fr, l, by rw [← opdS_ok hr, hx]; rfl, h1, h2, extract_vals h3, h5⟩
  · cases h
theorem loadS_ok {o : Oper} {t : TypeId} {x : Operand} (ho : o.op = .load t x) : BodyOk I n P o (loadS I n P t x) := fun call ca e en F H k hc hr hH h => by
  unfold loadS at h
  split at h
  · rename_i fs hu
    obtain ⟨c, off, C, el, fr, l, h1, h2, h3, h4, h5⟩ := aggS_ok hr hH h
    refine ⟨.aa l, F, H, ?_, hH, h5⟩
    unfold evOp
    simp only [ho, h1, loadA, h2, hu, if_pos h3, h4, Option.map_some, FV.val]
  · rename_i m el' hu
    obtain ⟨c, off, C, el, fr, l, h1, h2, h3, h4, h5⟩ := aggS_ok hr hH h
    refine ⟨.aa l, F, H, ?_, hH, h5⟩
    unfold evOp
    simp only [ho, h1, loadA, h2, hu, if_pos h3, h4, Option.map_some, FV.val]
  · rename_i d hs ha hu
    have h : onP (cellK (fun v => k v F) F) false ((opdS I n x).run e) = true := h
    rcases onP_ok h with ⟨c, off, hx, h⟩ | h
    · obtain ⟨C, el, fr, f, h1, h2, h3⟩ := cellK_ok hH h
      have hx : rho en x = .pointer (some ⟨c, off, none⟩) := by rw [← opdS_ok hr, hx]; rfl
      refine ⟨f, F, H, ?_, hH, h3⟩
      unfold evOp
      simp only [ho, hx, loadA, h1, hu]
      cases d with
      | struct fs => exact (hs fs rfl).elim
      | array m el => exact (ha m el rfl).elim
      | _ => simp only [h2, Option.map_some]
    · cases h
  · cases h

/-! ### Stores -/
/-- Is it one cell? -/
noncomputable def isC (v : FV) : Bool := FV.rec (motive_1 := fun _ => Bool) (motive_2 := fun _ => Bool) (fun _ => true) (fun _ _ => true) (fun _ => true) (fun _ _ => true) (fun _ _ => true) (fun _ _ _ _ => true) (fun _ => true) (fun _ _ => false) (fun _ _ => false) (fun _ _ _ => true) (fun _ _ _ => true) (fun v => isCell v) false (fun _ _ _ _ => false) v
theorem isC_ok {v : FV} (h : isC v = true) : isCell v.val = true := by
  cases v with
  | oo v => exact h
  | aa => cases h
  | tt => cases h
  | _ => rfl
noncomputable def allC (k : Bool) (l : List FV) : Bool := List.rec (motive := fun _ => Bool) k (fun v _ ih => ifK ih (isC v)) l
theorem allC_ok {k : Bool} : ∀ {l : List FV}, allC k l = true → (FV.vals l).all isCell = true ∧ k = true
  | [], h => ⟨rfl, h⟩
  | v :: r, h => by
    have h : ifK (allC k r) (isC v) = true := h
    obtain ⟨h1, h2⟩ := ifK_ok h
    obtain ⟨h3, h4⟩ := allC_ok h2
    exact ⟨by rw [FV.vals, List.all_cons, isC_ok h1, h3]; rfl, h4⟩
/-- A value's cells. -/
noncomputable def fcells (k : List FV → Bool) (v : FV) : Bool := onA (fun l => allC (k l) l) (ifK (k [v]) (isC v)) v
theorem cell_cells {v : Value} (h : isCell v = true) : v.cells = #[v] := by cases v <;> first | rfl | cases h
theorem fcells_ok {k : List FV → Bool} {v : FV} (h : fcells k v = true) : ∃ l, v.val.cells = (FV.vals l).toArray ∧ (FV.vals l).all isCell = true ∧ k l = true := by
  rcases onA_ok h with ⟨l, rfl, h⟩ | h
  · obtain ⟨h1, h2⟩ := allC_ok h
    exact ⟨l, rfl, h1, h2⟩
  · obtain ⟨h1, h2⟩ := ifK_ok h
    exact ⟨[v], by rw [cell_cells (isC_ok h1)]; rfl, by simp [FV.vals, isC_ok h1], h2⟩
noncomputable def frzK (k : Bool) (off off2 lo hi : Nat) : Bool := iteK (iteK (ifK k (Nat.ble off2 lo)) k (Nat.ble hi off)) k (Nat.beq lo hi)
theorem frzK_ok {k : Bool} {off off2 lo hi : Nat} (h : frzK k off off2 lo hi = true) : (decide (hi ≤ off) || decide (off2 ≤ lo) || lo == hi) = true ∧ k = true := by
  rcases iteK_ok h with ⟨_, h⟩ | ⟨h1, h⟩
  · rcases iteK_ok h with ⟨_, h⟩ | ⟨h1, h⟩
    · obtain ⟨h1, h2⟩ := ifK_ok h
      exact ⟨by simp [Nat.le_of_ble_eq_true h1], h2⟩
    · exact ⟨by simp [Nat.le_of_ble_eq_true h1], h⟩
  · exact ⟨by simp [Nat.eq_of_beq_eq_true h1], h⟩
noncomputable def mkCl (k : FObj → Bool) (n e lo hi : Nat) (t : Q FV) : Bool := k (.cl n t e lo hi)
noncomputable def mkYy (k : FObj → Bool) (n e lo hi : Nat) (x : Nat) : Bool := k (.yy n x e lo hi)
/-- Cells written over cells. -/
noncomputable def updCl (l : List FV) (off len : Nat) (k : FObj → Bool) (n : Nat) (t : Q FV) (e lo hi : Nat) : Bool := ifK (frzK (setL l (mkCl k n e lo hi) off t) off (Nat.add off len) lo hi) (Nat.ble (Nat.add off len) n)
/-- A byte, or bytes, written over bytes. -/
noncomputable def setBy (n x off m y : Nat) : Nat := catN off x (catN m y (Nat.shiftRight x (Nat.mul 8 (Nat.add off m))))
noncomputable def updYb (off : Nat) (k : FObj → Bool) (n x e lo hi : Nat) (kd : IntKind) (b : Int) : Bool :=
  ifK (Int.rec (motive := fun _ => Bool) (fun b => ifK (natK (mkYy k n e lo hi) (setBy n x off 1 b)) (Nat.ble b 255)) (fun _ => false) b) (decide (kd = .u8))
noncomputable def updYy (l : List FV) (off len : Nat) (k : FObj → Bool) (n x e lo hi : Nat) : Bool :=
  List.rec (motive := fun _ => Bool) false (fun v r _ => List.rec (motive := fun _ => Bool) (ifK (frzK (onInt (fun _ => false) (updYb off k n x e lo hi) false v) off (Nat.add off 1) lo hi) (Nat.ble (Nat.add off 1) n)) (fun _ _ _ => false) r) l
noncomputable def updO (l : List FV) (off len : Nat) (k : FObj → Bool) (o : FObj) : Bool := FObj.rec (motive := fun _ => Bool) (updCl l off len k) (updYy l off len k) (fun _ _ _ => false) (fun _ _ => false) o
theorem bytesL_all (l : List Value) : ∀ b ∈ l.map id, b ∈ l := by simp
theorem setBy_ok {n x off m y : Nat} (h : off + m ≤ n) : bytesL n (setBy n x off m y) = (bytesL n x).take off ++ bytesL m y ++ (bytesL n x).drop (off + m) := by
  have e1 : n = off + (m + (n - (off + m))) := by omega
  have h1 : bytesL n (setBy n x off m y) = bytesL off x ++ (bytesL m y ++ bytesL (n - (off + m)) (Nat.shiftRight x (8 * (off + m)))) := by
    conv => lhs; arg 1; rw [e1]
    rw [show setBy n x off m y = x % 2 ^ (8 * off) + Nat.shiftLeft (y % 2 ^ (8 * m) + Nat.shiftLeft (Nat.shiftRight x (8 * (off + m))) (8 * m)) (8 * off) from rfl, bytesL_app, bytesL_app]
  have h2 : (bytesL n x).take off = bytesL off x := by
    have := bytesL_take off (n - off) x
    rwa [show off + (n - off) = n by omega] at this
  have h3 : (bytesL n x).drop (off + m) = bytesL (n - (off + m)) (Nat.shiftRight x (8 * (off + m))) := by
    have := bytesL_drop (off + m) (n - (off + m)) x
    rwa [show off + m + (n - (off + m)) = n by omega] at this
  rw [h1, h2, h3, List.append_assoc]
theorem updO_ok {l : List FV} {off len : Nat} {k : FObj → Bool} {o : FObj} {O : Obj} (hO : FObjR o O) (hl : len = l.length) (h : updO l off len k o = true) :
    ∃ C e lo hi, O = .cells C e (lo, hi) ∧ off + l.length ≤ C.size ∧ (decide (hi ≤ off) || decide (off + l.length ≤ lo) || lo == hi) = true ∧ ∃ o', FObjR o' (.cells (writeCells C off (FV.vals l)) e (lo, hi)) ∧ k o' = true := by
  subst hl
  cases o with
  | cl n t e lo hi =>
    obtain ⟨C, rfl, h1, h2⟩ := hO
    have h : ifK (frzK (setL l (mkCl k n e lo hi) off t) off (Nat.add off l.length) lo hi) (Nat.ble (Nat.add off l.length) n) = true := h
    obtain ⟨h3, h4⟩ := ifK_ok h
    obtain ⟨h5, h6⟩ := frzK_ok h4
    have h3 : off + l.length ≤ n := Nat.le_of_ble_eq_true h3
    obtain ⟨t', h7, h8⟩ := setL_ok l _ off t C h1 h3 h2 h6
    exact ⟨C, e, lo, hi, rfl, by rw [h1]; exact h3, h5, .cl n t' e lo hi, ⟨_, rfl, by rw [writeCells_sz, h1], h7⟩, h8⟩
  | yy n x e lo hi =>
    cases l with
    | nil => cases h
    | cons v r =>
      cases r with
      | cons => cases h
      | nil =>
        have h : ifK (frzK (onInt (fun _ => false) (updYb off k n x e lo hi) false v) off (Nat.add off 1) lo hi) (Nat.ble (Nat.add off 1) n) = true := h
        obtain ⟨h3, h4⟩ := ifK_ok h
        obtain ⟨h5, h6⟩ := frzK_ok h4
        have h3 : off + 1 ≤ n := Nat.le_of_ble_eq_true h3
        rcases onInt_ok h6 with ⟨_, _, h20⟩ | ⟨kd, b, hv, h20⟩ | h20
        · cases h20
        · obtain ⟨h21, h22⟩ := ifK_ok h20
          have h21 : kd = .u8 := of_decide_eq_true h21
          subst h21
          cases b with
          | negSucc => cases h22
          | ofNat b =>
            have h22 : ifK (natK (mkYy k n e lo hi) (setBy n x off 1 b)) (Nat.ble b 255) = true := h22
            obtain ⟨h9, h10⟩ := ifK_ok h22
            rw [natK_eq] at h10
            have h9 : b ≤ 255 := Nat.le_of_ble_eq_true h9
            refine ⟨_, e, lo, hi, hO, by simpa [bytesL_len] using h3, h5, .yy n (setBy n x off 1 b) e lo hi, ?_, h10⟩
            show Obj.cells _ e (lo, hi) = Obj.cells _ e (lo, hi)
            congr 1
            apply Array.ext'
            rw [writeCells_all _ _ _ (by simpa [bytesL_len, FV.vals] using h3), setBy_ok h3]
            subst hv
            simp only [FV.vals, FV.val, List.map_append, List.map_take, List.map_drop]
            congr 2
            show _ = [byteC (UInt8.ofNat b)]
            rw [byteC_mod, Nat.mod_eq_of_lt (by omega)]
        · cases h20
  | it => cases h
  | mp => cases h
/-- A list's length, reckoned. -/
noncomputable def lenL (l : List FV) : Nat := List.rec (motive := fun _ => Nat) 0 (fun _ _ ih => Nat.add ih 1) l
theorem lenL_eq : ∀ l : List FV, lenL l = l.length
  | [] => rfl
  | x :: r => by show Nat.add (lenL r) 1 = _; rw [lenL_eq r]; rfl
noncomputable def wr1 (k : FV → FH → Bool) (sz : Nat) (F : FH) (c o : Nat) (l : List FV) : Bool := ifK (wrK (updO l o sz) (k undefF) F c) (Nat.beq (lenL l) sz)
noncomputable def st1 (k : FV → FH → Bool) (sz : Nat) (F : FH) (y : FV) (c o : Nat) : Bool := fcells (wr1 k sz F c o) y
noncomputable def storeS (I : EnvI E) (n : Nat) (P : Program) (t : TypeId) (x y : Operand) : BodyK E :=
  match P.info? t with
  | some i => natR (fun sz => GetK.rec (motive := fun _ => BodyK E) (fun gx => GetK.rec (motive := fun _ => BodyK E) (fun gy => ⟨fun _ k t F => onP (st1 k sz F (gy t)) false (gx t)⟩) (opdS I n y)) (opdS I n x)) i.size
  | none => ⟨fun _ _ _ _ => false⟩
theorem storeS_ok {o : Oper} {t : TypeId} {x y : Operand} (ho : o.op = .store t x y) : BodyOk I n P o (storeS I n P t x y) := fun call ca e en F H k hc hr hH h => by
  unfold storeS at h
  split at h
  case h_2 => cases h
  rename_i i hi
  rw [natR_eq] at h
  have h : onP (st1 k i.size F ((opdS I n y).run e)) false ((opdS I n x).run e) = true := h
  rcases onP_ok h with ⟨c, off, hx, h⟩ | h
  · have hx : rho en x = .pointer (some ⟨c, off, none⟩) := by rw [← opdS_ok hr, hx]; rfl
    obtain ⟨l, h1, h2, h3⟩ := fcells_ok h
    rw [opdS_ok hr] at h1
    obtain ⟨h4, h5⟩ := ifK_ok h3
    rw [lenL_eq] at h4
    have h4 := Nat.eq_of_beq_eq_true h4
    obtain ⟨b, o', hb, hl, ht, hO, co, h6, h7⟩ := wrK_ok hH h5
    obtain ⟨C, el, lo, hi', h8, h9, h10, o2, h11, h12⟩ := updO_ok hO h4.symm h6
    obtain ⟨F', h13, h14⟩ := h7 o2 h12 _ h11 (by rw [h8]; exact ⟨(writeCells_sz _ _ _).symm, rfl⟩)
    refine ⟨undefF, F', _, ?_, h13, h14⟩
    unfold evOp
    have hsz : (rho en y).cells.size = l.length := by rw [h1]; simp [FV.vals_eq]
    have hcs : (rho en y).cells.toList = FV.vals l := by rw [h1]
    have hsz' : off + l.length ≤ C.size := h9
    have hcond : (H.live c b && H.tip c b && (P.info? t).map (·.size) == some (rho en y).cells.size && decide (off + (rho en y).cells.size ≤ C.size) && (rho en y).cells.toList.all isCell && (decide (hi' ≤ off) || decide (off + (rho en y).cells.size ≤ lo) || lo == hi')) = true := by
      rw [hl, ht, hi, hsz, hcs, h2, h10, h4]
      simp only [Bool.true_and, Bool.and_true, Option.map_some, decide_eq_true (h4 ▸ hsz'), beq_self_eq_true]
    simp only [ho, hx, storeA, hb, h8]
    rw [if_pos hcond, hcs]
    rfl
  · cases h
end
end Go.Proofs.YtenolmhnmcjndaaGreatDoor.Ev
namespace Go.Proofs.YtenolmhnmcjndaaGreatDoor.Ev
set_option linter.unusedVariables false
set_option linter.unusedSimpArgs false
open Go
section
variable {E : Type} {I : EnvI E} {n : Nat} {P : Program}

def failB : BodyK E := ⟨fun _ _ _ _ => false⟩
/-- A list of values, made ready once. -/
noncomputable def readyL (f : List FV → BodyK E) (l : List Value) : BodyK E := convL (convR failB) l f
theorem readyL_ok {f : List FV → BodyK E} {l : List Value} {call : CallT} {k : FV → FH → Bool} {t : E} {F : FH} (h : (readyL f l).run call k t F = true) : ∃ fs, FV.vals fs = l ∧ (f fs).run call k t F = true := by
  unfold readyL at h
  rcases convL_ok (fun k v => convR_ok failB k v) l f with h2 | ⟨fs, h1, h2⟩
  · rw [h2] at h; cases h
  · rw [h2] at h; exact ⟨fs, h1, h⟩
noncomputable def readyQ (f : Q FV → BodyK E) (l : List FV) : BodyK E := layR failB l f 0 Q.emp
theorem readyQ_ok {f : Q FV → BodyK E} {l : List FV} {call : CallT} {k : FV → FH → Bool} {t : E} {F : FH} (h : (readyQ f l).run call k t F = true) : ∃ q : Q FV, (∀ j v, q.get j = some v → (FV.vals l)[j]? = some (FV.val v)) ∧ (f q).run call k t F = true := by
  unfold readyQ at h
  rcases layR_ok (z := failB) l f 0 Q.emp [] rfl (fun j f hj => by cases hj) with h2 | ⟨q, h1, h2⟩
  · rw [h2] at h; cases h
  · rw [h1] at h; exact ⟨q, by simpa using h2, h⟩
theorem clR {l : List FV} {q : Q FV} {C : Array Value} {e lo hi n : Nat} (hq : ∀ j v, q.get j = some v → (FV.vals l)[j]? = some (FV.val v)) (hC : C.toList = FV.vals l) (hn : n = l.length) : FObjR (.cl n q e lo hi) (.cells C e (lo, hi)) := by
  refine ⟨C, rfl, ?_, fun i f hf => ?_⟩
  · rw [← Array.length_toList, hC, FV.vals_eq, hn]; simp
  · rw [← Array.getElem?_toList, hC]; exact hq i f hf

/-! ### New variables -/
noncomputable def ptrK (k : FV → FH → Bool) (c : Nat) (F : FH) : Bool := k (.pp c 0) F
noncomputable def allocS (P : Program) (e : TypeId) : BodyK E :=
  match zeroT P e with
  | some z => readyL (fun l => natR (fun m => readyQ (fun q => ⟨fun _ k _ F => newX (ptrK k) (.cl m q e 0 0) F⟩) l) (lenL l)) z.cells.toList
  | none => failB
theorem allocS_ok {o : Oper} {el : TypeId} (ho : o.op = .alloc el) : BodyOk I n P o (allocS P el) := fun call ca e en F H k hc hr hH h => by
  unfold allocS at h
  split at h
  case h_2 => cases h
  rename_i z hz
  obtain ⟨l, h1, h2⟩ := readyL_ok h
  rw [natR_eq] at h2
  obtain ⟨q, h3, h4⟩ := readyQ_ok h2
  obtain ⟨F', h5, h6⟩ := newX_ok hH (clR h3 h1.symm (lenL_eq l)) h4
  refine ⟨.pp H.next 0, F', _, ?_, h5, h6⟩
  unfold evOp
  simp only [ho, hz]
  rfl
noncomputable def boxQ (k : FV → FH → Bool) (e : TypeId) (F : FH) (m : Nat) (q : Q FV) : Bool := newX (ptrK k) (.cl m q e 0 0) F
noncomputable def boxL (k : FV → FH → Bool) (e : TypeId) (F : FH) (l : List FV) : Bool := natK (fun m => layL (boxQ k e F m) l) (lenL l)
noncomputable def boxS (I : EnvI E) (n : Nat) (e : TypeId) (x : Operand) : BodyK E := GetK.rec (motive := fun _ => BodyK E) (fun gx => ⟨fun _ k t F => fcells (boxL k e F) (gx t)⟩) (opdS I n x)
theorem boxS_ok {o : Oper} {el : TypeId} {x : Operand} (ho : o.op = .box el x) : BodyOk I n P o (boxS I n el x) := fun call ca e en F H k hc hr hH h => by
  have h : fcells (boxL k el F) ((opdS I n x).run e) = true := h
  obtain ⟨l, h1, h2, h3⟩ := fcells_ok h
  rw [opdS_ok hr] at h1
  unfold boxL at h3
  rw [natK_eq] at h3
  obtain ⟨q, h4, h5⟩ := layL_ok h3
  obtain ⟨F', h6, h7⟩ := newX_ok hH (O := .cells (rho en x).cells el (0, 0)) (clR h4 (by rw [h1]) (lenL_eq l)) h5
  refine ⟨.pp H.next 0, F', _, ?_, h6, h7⟩
  unfold evOp
  simp only [ho]
  rw [show (rho en x).cells.toList.all isCell = true by rw [h1]; exact h2]
  rfl

/-! ### Values of parts -/
noncomputable def ovL (l : List FV) : (List FV → Bool) → List FV → Bool :=
  List.rec (motive := fun _ => (List FV → Bool) → List FV → Bool) (fun k cs => k cs) (fun x _ ih k cs => List.rec (motive := fun _ => Bool) false (fun _ r _ => ih (consK k x) r) cs) l
/-- Cells over those of a list, from a place on. -/
noncomputable def putL (l : List FV) (k : List FV → Bool) (off : Nat) (cs : List FV) : Bool :=
  Nat.rec (motive := fun _ => (List FV → Bool) → List FV → Bool) (ovL l) (fun _ ih k cs => List.rec (motive := fun _ => Bool) false (fun c r _ => ih (consK k c) r) cs) off k cs
theorem ovL_ok : ∀ (l : List FV) (k : List FV → Bool) (cs : List FV), ovL l k cs = true → ∃ r, l.length ≤ cs.length ∧ r = l ++ cs.drop l.length ∧ k r = true
  | [], k, cs, h => ⟨cs, Nat.zero_le _, rfl, h⟩
  | x :: l, k, [], h => by cases h
  | x :: l, k, c :: cs, h => by
    obtain ⟨r, h1, h2, h3⟩ := ovL_ok l (consK k x) cs h
    exact ⟨x :: r, by simpa using h1, by simp [h2], h3⟩
theorem putL_ok {l : List FV} : ∀ (off : Nat) (k : List FV → Bool) (cs : List FV), putL l k off cs = true → ∃ r, off + l.length ≤ cs.length ∧ r = cs.take off ++ l ++ cs.drop (off + l.length) ∧ k r = true
  | 0, k, cs, h => by
    obtain ⟨r, h1, h2, h3⟩ := ovL_ok l k cs h
    exact ⟨r, by omega, by simp [h2], h3⟩
  | off + 1, k, [], h => by cases h
  | off + 1, k, c :: cs, h => by
    obtain ⟨r, h1, h2, h3⟩ := putL_ok off (consK k c) cs h
    refine ⟨c :: r, by simp; omega, ?_, h3⟩
    rw [h2, show off + 1 + l.length = (off + l.length) + 1 by omega]
    simp
theorem fold_write : ∀ (l : List Value) (C : Array Value) (off j : Nat), (l.zipIdx j).foldl (fun cs (p : Value × Nat) => cs.setIfInBounds (off + p.2) p.1) C = writeCells C (off + j) l
  | [], C, off, j => rfl
  | v :: r, C, off, j => by
    rw [List.zipIdx_cons, List.foldl_cons, fold_write r _ off (j + 1)]
    rfl
theorem fill_cons {place : Nat → Option (Nat × Nat)} {C : Array Value} {i off size : Nat} {v : Value} {rest : List (Nat × Value)} (hp : place i = some (off, size)) (h1 : v.cells.size = size) (h2 : off + v.cells.size ≤ C.size) :
    Instr.fill place C ((i, v) :: rest) = Instr.fill place (writeCells C off v.cells.toList) rest := by
  conv => lhs; unfold Instr.fill
  rw [hp]
  simp only
  rw [if_neg (by simp [h1]; omega)]
  congr 1
  have e : ∀ (V C : Array Value), V.zipIdx.foldl (fun cs (p : Value × Nat) => match p with | (c, j) => cs.setIfInBounds (off + j) c) C = (V.toList.zipIdx 0).foldl (fun cs p => cs.setIfInBounds (off + p.2) p.1) C := fun V C => by
    rw [← Array.foldl_toList, Array.toList_zipIdx]
  rw [e, fold_write]; rfl
structure PartK (E : Type) where
  run : (List FV → Bool) → E → List FV → Bool
noncomputable def part2 (r : (List FV → Bool) → E → List FV → Bool) (k : List FV → Bool) (t : E) (off size : Nat) (cs : List FV) (l : List FV) : Bool := ifK (putL l (r k t) off cs) (Nat.beq (lenL l) size)
noncomputable def failP : PartK E := ⟨fun _ _ _ => false⟩
noncomputable def partsS (I : EnvI E) (n : Nat) (place : Nat → Option (Nat × Nat)) : List (Nat × Operand) → PartK E
  | [] => ⟨fun k _ cs => k cs⟩
  | p :: r => match place p.1 with
    | some q => natR (fun off => natR (fun size => GetK.rec (motive := fun _ => PartK E) (fun g => PartK.rec (motive := fun _ => PartK E) (fun rr => ⟨fun k t cs => fcells (part2 rr k t off size cs) (g t)⟩) (partsS I n place r)) (opdS I n p.2)) q.2) q.1
    | none => failP
theorem vals_len (l : List FV) : (FV.vals l).length = l.length := by rw [FV.vals_eq]; simp
theorem partsS_ok {place : Nat → Option (Nat × Nat)} {e : E} {en : List Value} (hr : REv I n e en) : ∀ (ps : List (Nat × Operand)) (k : List FV → Bool) (cs : List FV), (partsS I n place ps).run k e cs = true →
    ∃ r, Instr.fill place (FV.vals cs).toArray (ps.map fun p => (p.1, rho en p.2)) = some (FV.vals r).toArray ∧ (ps.map fun p => (p.1, rho en p.2)).all (fun p => p.2.cells.toList.all isCell) = true ∧ k r = true
  | [], k, cs, h => ⟨cs, rfl, rfl, h⟩
  | p :: ps, k, cs, h => by
    unfold partsS at h
    split at h
    case h_2 => cases h
    rename_i q hq
    rw [natR_eq, natR_eq] at h
    have h : fcells (part2 (partsS I n place ps).run k e q.1 q.2 cs) ((opdS I n p.2).run e) = true := h
    obtain ⟨l, h1, h2, h3⟩ := fcells_ok h
    rw [opdS_ok hr] at h1
    obtain ⟨h4, h5⟩ := ifK_ok h3
    rw [lenL_eq] at h4
    have h4 := Nat.eq_of_beq_eq_true h4
    obtain ⟨r, h6, h7, h8⟩ := putL_ok _ _ _ h5
    obtain ⟨r', h9, h10, h11⟩ := partsS_ok hr ps k r h8
    refine ⟨r', ?_, ?_, h11⟩
    · rw [List.map_cons, fill_cons (off := q.1) (size := q.2) (by rw [hq]) (by rw [h1]; simp [vals_len, h4]) (by rw [h1]; simp [vals_len]; omega)]
      rw [← h9]
      congr 1
      apply Array.ext'
      rw [writeCells_all _ _ _ (by rw [h1]; simp [vals_len]; omega), h1, h7]
      simp only [FV.vals_eq, List.map_append, List.map_take, List.map_drop, List.length_map]
    · rw [List.map_cons, List.all_cons, h10, Bool.and_true]
      show (rho en p.2).cells.toList.all isCell = true
      rw [h1]; exact h2
noncomputable def aggP (p : (List FV → Bool) → E → List FV → Bool) (zl : List FV) (k : FV → FH → Bool) (t : E) (F : FH) : Bool := p (aggK k F) t zl
noncomputable def buildS (I : EnvI E) (n : Nat) (P : Program) (t : TypeId) (ps : Array (Nat × Operand)) : BodyK E :=
  match zeroT P t with
  | some z => match P.underlying t with
    | some (.struct fields) => match fields.toList.mapM (fun f => (P.info? f.type).map fun i => (f.offset, i.size)) with
      | some places => readyL (fun zl => PartK.rec (motive := fun _ => BodyK E) (fun p => ⟨fun _ k t F => p (aggK k F) t zl⟩) (partsS I n (places.toArray[·]?) ps.toList)) z.cells.toList
      | none => failB
    | some (.array _ el) => match P.info? el with
      | some ie => readyL (fun zl => PartK.rec (motive := fun _ => BodyK E) (fun p => ⟨fun _ k t F => p (aggK k F) t zl⟩) (partsS I n (fun i => some (i * ie.size, ie.size)) ps.toList)) z.cells.toList
      | none => failB
    | _ => failB
  | none => failB
theorem zeroT_info {t : TypeId} {z : Value} (h : zeroT P t = some z) : ∃ i, P.info? t = some i ∧ i.zero = some z := by
  unfold zeroT at h
  split at h
  · rename_i z' hz
    have := bif_some h
    cases this
    obtain ⟨i, h1, h2⟩ := Option.bind_eq_some_iff.1 hz
    exact ⟨i, h1, h2⟩
  · cases h
theorem buildS_ok {o : Oper} {t : TypeId} {ps : Array (Nat × Operand)} (ho : o.op = .build t ps) : BodyFlat I n P o (buildS I n P t ps) := fun call e en F k hr h => by
  unfold buildS at h
  split at h
  case h_2 => cases h
  rename_i z hz
  obtain ⟨it, hi, hiz⟩ := zeroT_info hz
  split at h
  · rename_i fields hu
    split at h
    case h_2 => cases h
    rename_i places hp
    obtain ⟨zl, h1, h2⟩ := readyL_ok h
    obtain ⟨r, h3, h4, h5⟩ := partsS_ok hr ps.toList (aggK k F) zl h2
    refine ⟨.aa r, fun ca H _ => ?_, h5⟩
    rw [h1] at h3
    unfold evOp
    simp only [ho]
    have hb : P.built t (ps.toList.map fun p => (p.1, rho en p.2)) = some (FV.vals r).toArray := by
      unfold Program.built
      simp only [hi, hu, hiz, hp]
      exact h3
    unfold buildA
    rw [hz, h4]
    simp only [hb, Option.map_some, FV.val]
  · rename_i m el hu
    split at h
    case h_2 => cases h
    rename_i ie he
    obtain ⟨zl, h1, h2⟩ := readyL_ok h
    obtain ⟨r, h3, h4, h5⟩ := partsS_ok hr ps.toList (aggK k F) zl h2
    refine ⟨.aa r, fun ca H _ => ?_, h5⟩
    rw [h1] at h3
    unfold evOp
    simp only [ho]
    have hb : P.built t (ps.toList.map fun p => (p.1, rho en p.2)) = some (FV.vals r).toArray := by
      unfold Program.built
      simp only [hi, hu, hiz, he]
      exact h3
    unfold buildA
    rw [hz, h4]
    simp only [hb, Option.map_some, FV.val]
  · cases h

/-! ### New rows -/
/-- Bytes packed. -/
noncomputable def pkB (ih : (Nat → Bool) → Bool) (k : Nat → Bool) (kd : IntKind) (b : Int) : Bool :=
  ifK (Int.rec (motive := fun _ => Bool) (fun b => ifK (ih fun x => natK k (Nat.add b (Nat.mul 256 x))) (Nat.ble b 255)) (fun _ => false) b) (decide (kd = .u8))
noncomputable def packF (l : List FV) : (Nat → Bool) → Bool := List.rec (motive := fun _ => (Nat → Bool) → Bool) (fun k => k 0) (fun v _ ih k => onInt (fun _ => false) (pkB ih k) false v) l
theorem packF_ok : ∀ {l : List FV} {k : Nat → Bool}, packF l k = true → ∃ x, (bytesL l.length x).map byteC = FV.vals l ∧ k x = true
  | [], k, h => ⟨0, rfl, h⟩
  | v :: r, k, h => by
    have h : onInt (fun _ => false) (pkB (packF r) k) false v = true := h
    rcases onInt_ok h with ⟨_, _, h⟩ | ⟨kd, b, hv, h⟩ | h
    · cases h
    · obtain ⟨h1, h2⟩ := ifK_ok h
      have h1 : kd = .u8 := of_decide_eq_true h1
      subst h1
      cases b with
      | negSucc => cases h2
      | ofNat b =>
        have h2 : ifK (packF r fun x => natK k (Nat.add b (Nat.mul 256 x))) (Nat.ble b 255) = true := h2
        obtain ⟨h3, h4⟩ := ifK_ok h2
        obtain ⟨x, h5, h6⟩ := packF_ok h4
        rw [natK_eq] at h6
        have h3 : b ≤ 255 := Nat.le_of_ble_eq_true h3
        refine ⟨Nat.add b (Nat.mul 256 x), ?_, h6⟩
        have e1 : (Nat.add b (Nat.mul 256 x)) / 256 = x := by show (b + 256 * x) / 256 = x; omega
        have e2 : (Nat.add b (Nat.mul 256 x)) % 256 = b := by show (b + 256 * x) % 256 = b; omega
        rw [List.length_cons, bytesL, List.map_cons, FV.vals, e1, h5, byteC_mod, e2, hv]
        rfl
    · cases h
noncomputable def isU8 (P : Program) (e : TypeId) : Bool := match P.underlying e with
  | some (.int .u8) => true
  | _ => false
noncomputable def rowNw (k : Nat → FH → Bool) (e : TypeId) (m : Nat) (F : FH) (q : Q FV) : Bool := newX k (.cl m q e 0 0) F
noncomputable def rowNy (k : Nat → FH → Bool) (e : TypeId) (m : Nat) (F : FH) (x : Nat) : Bool := newX k (.yy m x e 0 0) F
/-- A new row of these cells, just as long. -/
noncomputable def rowX (u8 : Bool) (k : Nat → FH → Bool) (e : TypeId) (F : FH) (l : List FV) : Bool := natK (fun m => Bool.rec (motive := fun _ => Bool) (layL (rowNw k e m F) l) (packF l (rowNy k e m F)) u8) (lenL l)
theorem rowX_ok {u8 : Bool} {k : Nat → FH → Bool} {e : TypeId} {F : FH} {H : AH} {l : List FV} {C : Array Value} (hH : HR F H) (hC : C.toList = FV.vals l) (h : rowX u8 k e F l = true) : ∃ F', HR F' (H.alloc (.cells C e) true) ∧ k H.next F' = true := by
  unfold rowX at h
  rw [natK_eq, lenL_eq] at h
  cases u8 with
  | false =>
    obtain ⟨q, h1, h2⟩ := layL_ok (show layL (rowNw k e l.length F) l = true from h)
    exact newX_ok hH (clR h1 hC rfl) h2
  | true =>
    obtain ⟨x, h1, h2⟩ := packF_ok (show packF l (rowNy k e l.length F) = true from h)
    refine newX_ok hH (O := .cells C e) ?_ h2
    show Obj.cells C e (0, 0) = Obj.cells _ e (0, 0)
    congr 1
    apply Array.ext'
    rw [hC, ← h1]
noncomputable def slcK (k : FV → FH → Bool) (n cap c : Nat) (F : FH) : Bool := k (.ll c 0 n cap) F
noncomputable def buildSlS (I : EnvI E) (n : Nat) (P : Program) (t : TypeId) (len : Nat) (ps : Array (Nat × Operand)) : BodyK E :=
  match elemT P t with
  | some e => match zeroT P e with
    | some z => match Nat.beq (len * szT P e) 0 with
      | true => match ps.toList with
        | [] => natR (fun len => ⟨fun _ k _ F => newX (slcK k len len) (.cl 0 Q.emp e 0 0) F⟩) len
        | _ => failB
      | false => Bool.rec (motive := fun _ => BodyK E) failB
          (natR (fun len => readyL (fun zl => PartK.rec (motive := fun _ => BodyK E) (fun p => Bool.rec (motive := fun _ => BodyK E) ⟨fun _ k t F => p (rowX false (slcK k len len) e F) t zl⟩ ⟨fun _ k t F => p (rowX true (slcK k len len) e F) t zl⟩ (isU8 P e))
            (partsS I n (fun i => some (i * szT P e, szT P e)) ps.toList)) ((Array.range (len * szT P e)).map (z.cells[· % z.cells.size]!)).toList) len)
          (Nat.ble (len * szT P e) (2 ^ 24) && !(Nat.beq z.cells.size 0))
    | none => failB
  | none => failB
theorem buildSlS_ok {o : Oper} {t : TypeId} {len : Nat} {ps : Array (Nat × Operand)} (ho : o.op = .buildSlice t len ps) : BodyOk I n P o (buildSlS I n P t len ps) := fun call ca e en F H k hc hr hH h => by
  unfold buildSlS at h
  split at h
  case h_2 => cases h
  rename_i el hel
  split at h
  case h_2 => cases h
  rename_i z hz
  split at h
  · rename_i h0
    have h0 := Nat.eq_of_beq_eq_true h0
    split at h
    case h_2 => cases h
    rename_i hps
    rw [natR_eq] at h
    obtain ⟨F', h5, h6⟩ := newX_ok (o := .cl 0 Q.emp el 0 0) hH (O := .cells #[] el (0, 0)) ⟨#[], rfl, rfl, fun i f hf => by cases hf⟩ h
    refine ⟨.ll H.next 0 len len, F', _, ?_, h5, h6⟩
    unfold evOp
    simp only [ho, hps, List.map_nil, buildSliceA, hel, hz, if_pos h0, List.isEmpty_nil, cond_true]
    rfl
  · rename_i h0
    have h0 := beq_ne h0
    cases hb : (Nat.ble (len * szT P el) (2 ^ 24) && !(Nat.beq z.cells.size 0)) with
    | false => rw [hb] at h; cases h
    | true =>
      rw [hb] at h
      have h := (natR_eq _ _ ▸ h : (readyL _ _).run call k e F = true)
      obtain ⟨zl, h1, h2⟩ := readyL_ok h
      have h3 : (partsS I n (fun i => some (i * szT P el, szT P el)) ps.toList).run (rowX (isU8 P el) (slcK k len len) el F) e zl = true := by
        revert h2
        generalize partsS I n (fun i => some (i * szT P el, szT P el)) ps.toList = pk
        cases pk
        cases isU8 P el <;> exact id
      obtain ⟨r, h4, h5, h6⟩ := partsS_ok hr ps.toList _ zl h3
      obtain ⟨F', h7, h8⟩ := rowX_ok hH (C := (FV.vals r).toArray) rfl h6
      refine ⟨.ll H.next 0 len len, F', _, ?_, h7, h8⟩
      rw [h1] at h4
      simp only [Bool.and_eq_true, Bool.not_eq_true'] at hb
      have hc : len * szT P el ≤ 2 ^ 24 ∧ z.cells.size ≠ 0 ∧ (ps.toList.map fun p => (p.1, rho en p.2)).all (fun p => p.2.cells.toList.all isCell) = true := ⟨Nat.le_of_ble_eq_true hb.1, beq_ne hb.2, h5⟩
      unfold evOp
      simp only [ho, buildSliceA, hel, hz, if_neg h0]
      rw [if_pos hc]
      have h4' : Instr.fill (fun i => some (i * szT P el, szT P el)) ((Array.range (len * szT P el)).map (z.cells[· % z.cells.size]!)) (ps.toList.map fun p => (p.1, rho en p.2)) = some (FV.vals r).toArray := by
        rw [← h4]
      rw [h4']
      rfl
end
end Go.Proofs.YtenolmhnmcjndaaGreatDoor.Ev
namespace Go.Proofs.YtenolmhnmcjndaaGreatDoor.Ev
set_option linter.unusedVariables false
set_option linter.unusedSimpArgs false
open Go
section
variable {E : Type} {I : EnvI E} {n : Nat} {P : Program}

/-! ### make -/
noncomputable def catL (z y : List FV) : List FV := List.rec (motive := fun _ => List FV) y (fun a _ ih => a :: ih) z
theorem catL_eq (y : List FV) : ∀ z, catL z y = z ++ y
  | [] => rfl
  | a :: z => by show a :: catL z y = _; rw [catL_eq y z]; rfl
noncomputable def repL (z : List FV) (m : Nat) : List FV := Nat.rec (motive := fun _ => List FV) [] (fun _ ih => catL z ih) m
theorem vals_app : ∀ a b : List FV, FV.vals (a ++ b) = FV.vals a ++ FV.vals b
  | [], _ => rfl
  | x :: a, b => by show x.val :: FV.vals (a ++ b) = _; rw [vals_app a b]; rfl
theorem rep_range {α : Type} [Inhabited α] (C : Array α) (m : Nat) : (((Array.range ((m + 1) * C.size)).map (C[· % C.size]!))).toList = C.toList ++ (((Array.range (m * C.size)).map (C[· % C.size]!))).toList := by
  simp only [Array.toList_map, Array.toList_range]
  apply List.ext_getElem
  · simp [Nat.add_mul, Nat.add_comm]
  · intro i h1 h2
    simp only [List.length_map, List.length_range] at h1
    by_cases hi : i < C.size
    · rw [List.getElem_append_left (by simpa using hi)]
      simp [Nat.mod_eq_of_lt hi, hi]
    · rw [List.getElem_append_right (by simpa using Nat.le_of_not_lt hi)]
      simp only [List.getElem_map, List.getElem_range, Array.length_toList]
      rw [Nat.mod_eq_sub_mod (Nat.le_of_not_lt hi)]
theorem repL_vals (z : List FV) (C : Array Value) (hz : FV.vals z = C.toList) : ∀ m, FV.vals (repL z m) = ((Array.range (m * C.size)).map (C[· % C.size]!)).toList
  | 0 => by simp [repL, FV.vals]
  | m + 1 => by
    show FV.vals (catL z (repL z m)) = _
    rw [catL_eq, vals_app, repL_vals z C hz m, rep_range, hz]
noncomputable def mk2 (u8 : Bool) (e : TypeId) (by_ : Nat) (z : List FV) (k : FV → FH → Bool) (F : FH) (l c : Nat) : Bool :=
  ifK (ifK (ifK (rowX u8 (slcK k l c) e F (repL z c)) (Nat.ble (Nat.mul by_ c) 140737488355328)) (Nat.ble c 140737488355328)) (Nat.ble l c)
noncomputable def mk1 (u8 : Bool) (e : TypeId) (by_ : Nat) (z : List FV) (k : FV → FH → Bool) (F : FH) (y : FV) (l : Nat) : Bool := onN (mk2 u8 e by_ z k F l) false y
noncomputable def makeSlS (I : EnvI E) (n : Nat) (P : Program) (t : TypeId) (x y : Operand) : BodyK E :=
  match elemT P t with
  | some e => match zeroT P e with
    | some z => Bool.rec (motive := fun _ => BodyK E) failB
        (readyL (fun z0 => natR (fun by_ => GetK.rec (motive := fun _ => BodyK E) (fun gx => GetK.rec (motive := fun _ => BodyK E) (fun gy => Bool.rec (motive := fun _ => BodyK E) ⟨fun _ k t F => onN (mk1 false e by_ z0 k F (gy t)) false (gx t)⟩ ⟨fun _ k t F => onN (mk1 true e by_ z0 k F (gy t)) false (gx t)⟩ (isU8 P e)) (opdS I n y)) (opdS I n x)) (bytesT P e)) z.cells.toList) (Nat.rec (motive := fun _ => Bool) false (fun m _ => Nat.beq z.cells.size (m + 1)) (szT P e))
    | none => failB
  | none => failB
theorem makeSlS_ok {o : Oper} {t : TypeId} {x y : Operand} (ho : o.op = .makeSlice t x y) : BodyOk I n P o (makeSlS I n P t x y) := fun call ca e en F H k hc hr hH h => by
  unfold makeSlS at h
  split at h
  case h_2 => cases h
  rename_i el hel
  split at h
  case h_2 => cases h
  rename_i z hz
  have hS : (Nat.rec (motive := fun _ => Bool) false (fun m _ => Nat.beq z.cells.size (m + 1)) (szT P el) : Bool) = true → z.cells.size = szT P el ∧ szT P el ≠ 0 := by
    cases szT P el with
    | zero => intro h; cases h
    | succ m => intro h; exact ⟨Nat.eq_of_beq_eq_true h, Nat.succ_ne_zero m⟩
  cases hb : (Nat.rec (motive := fun _ => Bool) false (fun m _ => Nat.beq z.cells.size (m + 1)) (szT P el) : Bool) with
  | false => rw [hb] at h; cases h
  | true =>
    rw [hb] at h
    obtain ⟨hb, hb0⟩ := hS hb
    obtain ⟨z0, h1, h2⟩ := readyL_ok h
    rw [natR_eq] at h2
    have h3 : onN (mk1 (isU8 P el) el (bytesT P el) z0 k F ((opdS I n y).run e)) false ((opdS I n x).run e) = true := by
      revert h2
      generalize opdS I n x = gx
      generalize opdS I n y = gy
      cases gx; cases gy
      cases isU8 P el <;> exact id
    rcases onN_ok h3 with ⟨lx, hx, h4⟩ | h4
    · rcases onN_ok h4 with ⟨c, hy, h5⟩ | h5
      · obtain ⟨h6, h7⟩ := ifK_ok h5
        obtain ⟨h8, h9⟩ := ifK_ok h7
        obtain ⟨h10, h11⟩ := ifK_ok h9
        have h6 : lx ≤ c := Nat.le_of_ble_eq_true h6
        have h8 : c ≤ 140737488355328 := Nat.le_of_ble_eq_true h8
        have h10 : bytesT P el * c ≤ 140737488355328 := Nat.le_of_ble_eq_true h10
        obtain ⟨F', h12, h13⟩ := rowX_ok hH (C := (Array.range (c * szT P el)).map (z.cells[· % z.cells.size]!)) (by
          rw [← hb]; exact (repL_vals z0 z.cells h1 c).symm) h11
        refine ⟨.ll H.next 0 lx c, F', _, ?_, h12, h13⟩
        have hx : rho en x = .int .i64 (Int.ofNat lx) := by rw [← opdS_ok hr, hx]; rfl
        have hy : rho en y = .int .i64 (Int.ofNat c) := by rw [← opdS_ok hr, hy]; rfl
        have hcond : (0 : Int) ≤ Int.ofNat lx ∧ Int.ofNat lx ≤ Int.ofNat c ∧ Int.ofNat c ≤ 140737488355328 ∧ (bytesT P el : Int) * Int.ofNat c ≤ 140737488355328 ∧ z.cells.size ≠ 0 ∧ szT P el ≠ 0 := by
          refine ⟨Int.natCast_nonneg _, Int.ofNat_le.2 h6, Int.ofNat_le.2 h8, ?_, by rw [hb]; exact hb0, hb0⟩
          show (bytesT P el : Int) * (c : Int) ≤ 140737488355328
          rw [← Int.natCast_mul]
          exact Int.ofNat_le.2 h10
        unfold evOp
        simp only [ho, makeSliceA, hel, hx, hy, hz]
        rw [if_pos hcond]
        rfl
      · cases h5
    · cases h4

/-! ### Slices of slices -/
noncomputable def elO (k : Bool) (e : TypeId) (o : FObj) : Bool := FObj.rec (motive := fun _ => Bool) (fun _ _ e' _ _ => ifK k (Nat.beq e' e)) (fun _ _ e' _ _ => ifK k (Nat.beq e' e)) (fun _ _ _ => false) (fun _ _ => false) o
/-- A row of such cells lies there. -/
noncomputable def elK (k : Bool) (e : TypeId) (F : FH) (c : Nat) : Bool := objK (elO k e) F c
theorem elK_ok {k : Bool} {e : TypeId} {F : FH} {H : AH} {c : Nat} (hH : HR F H) (h : elK k e F c = true) : ∃ C fr, H.cells c = some (C, e, fr) ∧ k = true := by
  obtain ⟨o, b, hb, hl, ho, h2⟩ := objK_ok hH h
  cases o with
  | cl n t e' lo hi =>
    obtain ⟨C, h3, _⟩ := ho
    obtain ⟨h4, h5⟩ := ifK_ok (show ifK k (Nat.beq e' e) = true from h2)
    have h4 : e' = e := Nat.eq_of_beq_eq_true h4
    subst h4
    exact ⟨C, _, cells_of hb hl h3, h5⟩
  | yy n x e' lo hi =>
    obtain ⟨h4, h5⟩ := ifK_ok (show ifK k (Nat.beq e' e) = true from h2)
    have h4 : e' = e := Nat.eq_of_beq_eq_true h4
    subst h4
    exact ⟨_, _, cells_of hb hl ho, h5⟩
  | it => cases h2
  | mp => cases h2
/-- A bound: what is told, or what it is by default. -/
noncomputable def bndK (k : Nat → Bool) (v : FV) : Bool := onN k false v
structure BndK (E : Type) where
  run : (Nat → Bool) → E → Nat → Bool
noncomputable def bndS (I : EnvI E) (n : Nat) (x : Option Operand) : BndK E :=
  match x with
  | none => ⟨fun k _ d => k d⟩
  | some x => GetK.rec (motive := fun _ => BndK E) (fun g => ⟨fun k t _ => onN k false (g t)⟩) (opdS I n x)
theorem bndS_ok {x : Option Operand} {k : Nat → Bool} {e : E} {en : List Value} {d : Nat} (hr : REv I n e en) (h : (bndS I n x).run k e d = true) : ∃ m, intOf? (x.map (rho en)) = some (if x.isSome then some (Int.ofNat m) else none) ∧ (x = none → m = d) ∧ k m = true ∧ boundN (rho en) x d = some m := by
  cases x with
  | none => exact ⟨d, rfl, fun _ => rfl, h, rfl⟩
  | some x =>
    have h : onN k false ((opdS I n x).run e) = true := h
    rcases onN_ok h with ⟨m, hx, h⟩ | h
    · have hx : rho en x = .int .i64 (Int.ofNat m) := by rw [← opdS_ok hr, hx]; rfl
      exact ⟨m, by simp only [Option.map_some, hx, intOf?, Option.isSome_some, if_true], (fun hn => by cases hn), h, by simp only [boundN, hx]⟩
    · cases h
noncomputable def slc3 (k : FV → FH → Bool) (F : FH) (e : TypeId) (sz c o n cap l h m : Nat) : Bool :=
  ifK (ifK (ifK (ifK (natK (fun o => natK (fun a => natK (fun b => k (.ll c o a b) F) (Nat.sub m l)) (Nat.sub h l)) (Nat.add o (Nat.mul l sz))) (Nat.ble n cap)) (Nat.ble m cap)) (Nat.ble h m)) (Nat.ble l h)
noncomputable def slcN3 (k : FV → FH → Bool) (F : FH) (n cap l h m : Nat) : Bool :=
  ifK (ifK (ifK (ifK (natK (fun a => natK (fun b => k (.oo (.slice none a b)) F) (Nat.sub m l)) (Nat.sub h l)) (Nat.ble n cap)) (Nat.ble m cap)) (Nat.ble h m)) (Nat.ble l h)
noncomputable def slcL (lo hi mx : (Nat → Bool) → E → Nat → Bool) (e : TypeId) (sz : Nat) (k : FV → FH → Bool) (t : E) (F : FH) (c o n cap : Nat) : Bool :=
  elK (lo (fun l => hi (fun h => mx (fun m => slc3 k F e sz c o n cap l h m) t cap) t n) t 0) e F c
noncomputable def slcO (lo hi mx : (Nat → Bool) → E → Nat → Bool) (k : FV → FH → Bool) (t : E) (F : FH) (v : Value) : Bool :=
  match v with
  | .slice none n cap => natK (fun n => natK (fun cap => lo (fun l => hi (fun h => mx (fun m => slcN3 k F n cap l h m) t cap) t n) t 0) cap) n
  | _ => false
noncomputable def sliceS (I : EnvI E) (n : Nat) (P : Program) (e : TypeId) (x : Operand) (lo hi mx : Option Operand) : BodyK E :=
  match Nat.beq (szT P e) 0 || (mx.isSome && !hi.isSome) with
  | true => failB
  | false => natR (fun sz => GetK.rec (motive := fun _ => BodyK E) (fun gx => BndK.rec (motive := fun _ => BodyK E) (fun bl => BndK.rec (motive := fun _ => BodyK E) (fun bh => BndK.rec (motive := fun _ => BodyK E) (fun bm => ⟨fun _ k t F => onL (slcL bl bh bm e sz k t F) (slcO bl bh bm k t F) false (gx t)⟩) (bndS I n mx)) (bndS I n hi)) (bndS I n lo)) (opdS I n x)) (szT P e)
theorem sliceS_ok {o : Oper} {t e : TypeId} {x : Operand} {lo hi mx : Option Operand} (ho : o.op = .slice t x lo hi mx) (ht : P.underlying t = some (.slice e)) : BodyOk I n P o (sliceS I n P e x lo hi mx) := fun call ca ev en F H k hc hr hH h => by
  unfold sliceS at h
  split at h
  case h_1 => cases h
  rename_i hz
  simp only [Bool.or_eq_false_iff, Bool.and_eq_false_iff, Bool.not_eq_false'] at hz
  obtain ⟨hz, hmh⟩ := hz
  have hz := beq_ne hz
  rw [natR_eq] at h
  have h : onL (slcL (bndS I n lo).run (bndS I n hi).run (bndS I n mx).run e (szT P e) k ev F) (slcO (bndS I n lo).run (bndS I n hi).run (bndS I n mx).run k ev F) false ((opdS I n x).run ev) = true := h
  have hel : elemT P t = some e := by unfold elemT; rw [ht]
  have key : ∀ (n' cap l h m : Nat), intOf? (lo.map (rho en)) = some (if lo.isSome then some (Int.ofNat l) else none) → (lo = none → l = 0) → intOf? (hi.map (rho en)) = some (if hi.isSome then some (Int.ofNat h) else none) → (hi = none → h = n') →
      intOf? (mx.map (rho en)) = some (if mx.isSome then some (Int.ofNat m) else none) → (mx = none → m = cap) → n' ≤ cap → m ≤ cap → h ≤ m → l ≤ h → ∀ a, rho en x = .slice a n' cap → sliceA P H t (rho en x) (lo.map (rho en)) (hi.map (rho en)) (mx.map (rho en)) =
        match a with
        | none => some (.slice none (h - l) (m - l))
        | some p => match H.cells p.block with
          | some (_, e', _) => bif Nat.beq e' e then some (.slice (some (p.add (l * szT P e))) (h - l) (m - l)) else none
          | none => none := fun n' cap l h m e1 e2 e3 e4 e5 e6 g1 g2 g3 g4 a hx => by
    unfold sliceA
    simp only [hel, hx, e1, e3, e5]
    have q1 : ((if lo.isSome then some (Int.ofNat l) else none).getD 0 : Int) = l := by cases lo with | none => simp [e2 rfl] | some _ => rfl
    have q2 : ((if hi.isSome then some (Int.ofNat h) else none).getD (n' : Int) : Int) = h := by cases hi with | none => simp [e4 rfl] | some _ => rfl
    have q3 : ((if mx.isSome then some (Int.ofNat m) else none).getD (cap : Int) : Int) = m := by cases mx with | none => simp [e6 rfl] | some _ => rfl
    have q4 : ((if mx.isSome then some (Int.ofNat m) else none).isSome = true → (if hi.isSome then some (Int.ofNat h) else none).isSome = true) := by
      cases mx with
      | none => intro hh; cases hh
      | some _ =>
        intro _
        cases hi with
        | none => rcases hmh with hh | hh <;> cases hh
        | some _ => rfl
    rw [q1, q2, q3]
    have q7 : (0 : Int) ≤ (l : Int) ∧ (l : Int) ≤ (h : Int) ∧ (h : Int) ≤ (m : Int) ∧ (m : Int) ≤ (cap : Int) ∧ ((if mx.isSome then some (Int.ofNat m) else none).isSome = true → (if hi.isSome then some (Int.ofNat h) else none).isSome = true) ∧ n' ≤ cap ∧ szT P e ≠ 0 := ⟨by omega, by omega, by omega, by omega, q4, g1, hz⟩
    rw [if_pos q7]
    have q5 : ((h : Int) - l).toNat = h - l := by omega
    have q6 : ((m : Int) - l).toNat = m - l := by omega
    simp only [q5, q6, Int.toNat_natCast]
    cases a with
    | none => rfl
    | some p => rfl
  rcases onL_ok h with ⟨c, off, m', cap, hx, h⟩ | ⟨v, hx, h⟩ | h
  · obtain ⟨C, fr, h1, h2⟩ := elK_ok hH (show elK _ e F c = true from h)
    obtain ⟨l, a1, a2, h3, _⟩ := bndS_ok hr h2
    obtain ⟨hh, b1, b2, h4, _⟩ := bndS_ok hr h3
    obtain ⟨m, c1, c2, h5, _⟩ := bndS_ok hr h4
    obtain ⟨g1, h6⟩ := ifK_ok h5
    obtain ⟨g2, h7⟩ := ifK_ok h6
    obtain ⟨g3, h8⟩ := ifK_ok h7
    obtain ⟨g4, h9⟩ := ifK_ok h8
    rw [natK_eq, natK_eq, natK_eq] at h9
    have hx : rho en x = .slice (some ⟨c, off, none⟩) m' cap := by rw [← opdS_ok hr, hx]; rfl
    refine ⟨_, F, H, ?_, hH, h9⟩
    unfold evOp
    simp only [ho, ht]
    rw [key m' cap l hh m a1 a2 b1 b2 c1 c2 (Nat.le_of_ble_eq_true g4) (Nat.le_of_ble_eq_true g3) (Nat.le_of_ble_eq_true g2) (Nat.le_of_ble_eq_true g1) _ hx]
    simp only [h1, show Nat.beq e e = true from Nat.beq_refl e, cond_true, Option.map_some, FV.val, addr_add]
    rfl
  · unfold slcO at h
    split at h
    case h_2 => cases h
    rename_i m' cap
    rw [natK_eq, natK_eq] at h
    obtain ⟨l, a1, a2, h3, _⟩ := bndS_ok hr h
    obtain ⟨hh, b1, b2, h4, _⟩ := bndS_ok hr h3
    obtain ⟨m, c1, c2, h5, _⟩ := bndS_ok hr h4
    obtain ⟨g1, h6⟩ := ifK_ok h5
    obtain ⟨g2, h7⟩ := ifK_ok h6
    obtain ⟨g3, h8⟩ := ifK_ok h7
    obtain ⟨g4, h9⟩ := ifK_ok h8
    rw [natK_eq, natK_eq] at h9
    have hx : rho en x = .slice none m' cap := by rw [← opdS_ok hr, hx]; rfl
    refine ⟨_, F, H, ?_, hH, h9⟩
    unfold evOp
    simp only [ho, ht]
    rw [key m' cap l hh m a1 a2 b1 b2 c1 c2 (Nat.le_of_ble_eq_true g4) (Nat.le_of_ble_eq_true g3) (Nat.le_of_ble_eq_true g2) (Nat.le_of_ble_eq_true g1) _ hx]
    rfl
  · cases h
/-- A part of a string. -/
noncomputable def sst3 (k : FV → FH → Bool) (F : FH) (n x l h : Nat) : Bool := ifK (ifK (natK (fun y => natK (fun m => k (.ss m y) F) (Nat.sub h l)) (Nat.shiftRight x (Nat.mul 8 l))) (Nat.ble h n)) (Nat.ble l h)
noncomputable def sstS (lo hi : (Nat → Bool) → E → Nat → Bool) (k : FV → FH → Bool) (t : E) (F : FH) (n x : Nat) : Bool := lo (fun l => hi (sst3 k F n x l) t n) t 0
noncomputable def substrS (I : EnvI E) (n : Nat) (x : Operand) (lo hi mx : Option Operand) : BodyK E :=
  match mx with
  | some _ => failB
  | none => GetK.rec (motive := fun _ => BodyK E) (fun gx => BndK.rec (motive := fun _ => BodyK E) (fun bl => BndK.rec (motive := fun _ => BodyK E) (fun bh => ⟨fun _ k t F => onS (sstS bl bh k t F) false (gx t)⟩) (bndS I n hi)) (bndS I n lo)) (opdS I n x)
theorem substrS_ok {o : Oper} {t : TypeId} {x : Operand} {lo hi mx : Option Operand} (ho : o.op = .slice t x lo hi mx) (ht : P.underlying t = some .string) : BodyFlat I n P o (substrS I n x lo hi mx) := fun call ev en F k hr h => by
  unfold substrS at h
  split at h
  case h_1 => cases h
  have h : onS (sstS (bndS I n lo).run (bndS I n hi).run k ev F) false ((opdS I n x).run ev) = true := h
  rcases onS_ok h with ⟨m, s, hx, h⟩ | h
  · obtain ⟨l, _, _, h3, e1⟩ := bndS_ok hr (show (bndS I n lo).run _ ev 0 = true from h)
    obtain ⟨hh, _, _, h4, e2⟩ := bndS_ok hr h3
    obtain ⟨g1, h5⟩ := ifK_ok h4
    obtain ⟨g2, h6⟩ := ifK_ok h5
    rw [natK_eq, natK_eq] at h6
    have g1' : l ≤ hh := Nat.le_of_ble_eq_true g1
    have g2' : hh ≤ m := Nat.le_of_ble_eq_true g2
    have hx : rho en x = .string (bytesA m s) := by rw [← opdS_ok hr, hx]; rfl
    refine ⟨_, fun ca H _ => ev_slice ho ?_, h6⟩
    have hlen : (bytesA m s).data.toList.length = m := by simp [bytesA, bytesL_len]
    simp only [fastSlice, ht, hx, hlen, e1, e2, g1, g2, Bool.and_self, cond_true, FV.val]
    congr 3
    have e3 : (bytesA m s).data.toList = bytesL m s := rfl
    have e4 : (bytesL m s).take hh = bytesL hh s := by
      have := bytesL_take hh (m - hh) s
      rwa [show hh + (m - hh) = m by omega] at this
    have e5 : (bytesL hh s).drop l = bytesL (hh - l) (Nat.shiftRight s (8 * l)) := by
      have := bytesL_drop l (hh - l) s
      rwa [show l + (hh - l) = hh by omega] at this
    rw [e3, e4, e5]; rfl
  · cases h

/-! ### A text gone through -/
noncomputable def rangS (I : EnvI E) (n : Nat) (x : Operand) : BodyK E := GetK.rec (motive := fun _ => BodyK E) (fun gx => ⟨fun _ k t F => onS (fun n x => newX (ptrK k) (.it n x 0) F) false (gx t)⟩) (opdS I n x)
theorem rangS_ok {o : Oper} {t : TypeId} {x : Operand} (ho : o.op = .range t x) (ht : P.underlying t = some .string) : BodyOk I n P o (rangS I n x) := fun call ca e en F H k hc hr hH h => by
  have h : onS (fun n x => newX (ptrK k) (.it n x 0) F) false ((opdS I n x).run e) = true := h
  rcases onS_ok h with ⟨m, s, hx, h⟩ | h
  · have hx : rho en x = .string (bytesA m s) := by rw [← opdS_ok hr, hx]; rfl
    obtain ⟨F', h1, h2⟩ := newX_ok (o := .it m s 0) hH (O := .stringIter (bytesA m s) 0) rfl h
    refine ⟨.pp H.next 0, F', _, ?_, h1, h2⟩
    unfold evOp
    simp only [ho, ht, hx]
    rfl
  · cases h
noncomputable def nxW (n x pos' : Nat) (co : FObj → Bool) (o : FObj) : Bool := co (.it n x pos')
noncomputable def nxV (k : FV → FH → Bool) (pos r : Nat) (F : FH) : Bool := k (.tt [.bb true, .nn pos, .ii .i32 (.ofNat r)]) F
noncomputable def nx2 (k : FV → FH → Bool) (F : FH) (c n x pos r w : Nat) : Bool := natK (fun pos' => wrK (nxW n x pos') (nxV k pos r) F c) (Nat.add pos w)
noncomputable def nxSlow (k : FV → FH → Bool) (F : FH) (c n x pos : Nat) (d : Nat × Nat) : Bool := natK (fun r => natK (fun w => nx2 k F c n x pos r w) d.2) d.1
noncomputable def nx1 (k : FV → FH → Bool) (F : FH) (c n x pos b : Nat) : Bool := iteK (nxSlow k F c n x pos (Utf8.decode (bytesA n x) pos)) (nx2 k F c n x pos b 1) (Nat.ble (Nat.succ b) 128)
noncomputable def nx0 (k : FV → FH → Bool) (F : FH) (c n x pos : Nat) : Bool := iteK (k (.tt [.bb false]) F) (natK (nx1 k F c n x pos) (Nat.mod (Nat.shiftRight x (Nat.mul 8 pos)) 256)) (Nat.ble (Nat.succ pos) n)
noncomputable def nxO (k : FV → FH → Bool) (F : FH) (c : Nat) (o : FObj) : Bool := FObj.rec (motive := fun _ => Bool) (fun _ _ _ _ _ => false) (fun _ _ _ _ _ => false) (nx0 k F c) (fun _ _ => false) o
noncomputable def nxB (k : FV → FH → Bool) (F : FH) (c : Nat) (fb : FBlk) : Bool := FBlk.rec (motive := fun _ => Bool) (fun o _ => nxO k F c o) (fun _ _ _ _ _ => false) fb
noncomputable def nxF (k : FV → FH → Bool) (F : FH) (c off : Nat) : Bool := ifK (FH.rec (motive := fun _ => Bool) (fun t _ _ => Q.getK (nxB k F c) t c) F) (Nat.beq off 0)
noncomputable def nextS (I : EnvI E) (n : Nat) (x : Operand) : BodyK E := GetK.rec (motive := fun _ => BodyK E) (fun gx => ⟨fun _ k t F => onP (nxF k F) false (gx t)⟩) (opdS I n x)
theorem get!_bytes {m s i : Nat} (h : i < m) : ((bytesA m s).get! i).toNat = Nat.shiftRight s (8 * i) % 256 := by
  have h1 : (bytesA m s).get! i = (bytesL m s)[i]! := by
    show (bytesL m s).toArray[i]! = _
    simp
  rw [h1]
  have h2 := bytesL_get h s
  rw [List.getElem!_eq_getElem?_getD, h2]
  simp
theorem decode_ascii {m s pos : Nat} (h : pos < m) (hb : Nat.shiftRight s (8 * pos) % 256 < 128) : Utf8.decode (bytesA m s) pos = (Nat.shiftRight s (8 * pos) % 256, 1) := by
  unfold Utf8.decode
  simp only [Nat.add_zero, get!_bytes h, if_pos hb]
theorem nextS_ok {o : Oper} {x : Operand} (ho : o.op = .next x true) : BodyOk I n P o (nextS I n x) := fun call ca e en F H k hc hr hH h => by
  have h : onP (nxF k F) false ((opdS I n x).run e) = true := h
  rcases onP_ok h with ⟨c, off, hx, h⟩ | h
  · obtain ⟨h0, h⟩ := ifK_ok h
    have h0 : off = 0 := Nat.eq_of_beq_eq_true h0
    subst h0
    have hx : rho en x = .pointer (some ⟨c, 0, none⟩) := by rw [← opdS_ok hr, hx]; rfl
    obtain ⟨t, nx, ck⟩ := F
    have h : Q.getK (nxB k ⟨t, nx, ck⟩ c) t c = true := h
    obtain ⟨fb, h1, h2⟩ := Q.getK_ok h
    cases fb with
    | gg => cases h2
    | xx o' ver =>
      obtain ⟨b, hb, hO, _, _, _, hl, ht⟩ := hH.xx h1
      cases o' with
      | cl => cases h2
      | yy => cases h2
      | mp => cases h2
      | it m s pos =>
        have h2 : nx0 k ⟨t, nx, ck⟩ c m s pos = true := h2
        have hO : b.obj = .stringIter (bytesA m s) pos := hO
        have hbl : (H.live c b && H.tip c b) = true := by rw [hl, ht]; rfl
        rcases iteK_ok h2 with ⟨h3, h4⟩ | ⟨h3, h4⟩
        · refine ⟨_, _, H, ?_, hH, h4⟩
          have h3 : ¬ pos < m := fun hlt => by rw [Nat.ble_eq_true_of_le hlt] at h3; cases h3
          unfold evOp
          simp only [ho, hx, nextA, hb, hbl, hO]
          rw [if_neg (by rw [bytesA_size]; exact h3)]
          rfl
        · have h3 : pos < m := Nat.le_of_ble_eq_true h3
          have wr : ∀ d : Nat × Nat, Utf8.decode (bytesA m s) pos = d → nx2 k ⟨t, nx, ck⟩ c m s pos d.1 d.2 = true → ∃ v F' H', evOp P ca o (rho en) H = some (FV.val v, H') ∧ HR F' H' ∧ k v F' = true := fun d hd h5 => by
            unfold nx2 at h5
            rw [natK_eq] at h5
            obtain ⟨b1, o1, hb1, _, _, _, co, h6, h7⟩ := wrK_ok hH h5
            rw [hb] at hb1; cases hb1
            obtain ⟨F', h8, h9⟩ := h7 _ h6 (.stringIter (bytesA m s) (pos + d.2)) rfl (by rw [hO]; trivial)
            refine ⟨_, F', _, ?_, h8, h9⟩
            unfold evOp
            simp only [ho, hx, nextA, hb, hbl, hO]
            rw [if_pos (by rw [bytesA_size]; exact h3), hd]
            rfl
          rw [natK_eq] at h4
          rcases iteK_ok h4 with ⟨_, h5⟩ | ⟨h5, h6⟩
          · unfold nxSlow at h5
            rw [natK_eq, natK_eq] at h5
            exact wr _ rfl h5
          · exact wr _ (decode_ascii h3 (Nat.le_of_ble_eq_true h5)) h6
  · cases h
end
end Go.Proofs.YtenolmhnmcjndaaGreatDoor.Ev
namespace Go.Proofs.YtenolmhnmcjndaaGreatDoor.Ev
set_option linter.unusedVariables false
set_option linter.unusedSimpArgs false
open Go
section
variable {E : Type} {I : EnvI E} {n : Nat} {P : Program} {F : FH} {H : AH}

/-! ### What is laid behind -/
/-- Cells, or bytes. -/
inductive Tl where
  | cs (l : List FV)
  | ys (m y : Nat)
def Tl.vals : Tl → List Value
  | .cs l => FV.vals l
  | .ys m y => (bytesL m y).map byteC
noncomputable def onTl (kc : List FV → Bool) (ky : Nat → Nat → Bool) (x : Tl) : Bool := Tl.rec (motive := fun _ => Bool) kc ky x
noncomputable def tlNo (k : Nat → Tl → Bool) (sz : Nat) (v : Value) : Bool := match v with
  | .slice none m _ => natK (fun m => ifK (k m (.cs [])) (Nat.beq (Nat.mul m sz) 0)) m
  | _ => false
noncomputable def tlLl (k : Nat → Tl → Bool) (F : FH) (sz c o m cap : Nat) : Bool := cellsK (fun l => k m (.cs l)) F c o (Nat.mul m sz)
noncomputable def tlG (k : Nat → Tl → Bool) (F : FH) (sz : Nat) (x : FV) : Bool := onL (tlLl k F sz) (tlNo k sz) false x
noncomputable def tlYo (k : Nat → Tl → Bool) (o m : Nat) (ob : FObj) : Bool := FObj.rec (motive := fun _ => Bool) (fun _ _ _ _ _ => false) (fun N x _ _ _ => ifK (natK (fun y => k m (.ys m y)) (Nat.shiftRight x (Nat.mul 8 o))) (Nat.ble (Nat.add o m) N)) (fun _ _ _ => false) (fun _ _ => false) ob
noncomputable def tlYl (k : Nat → Tl → Bool) (F : FH) (c o m cap : Nat) : Bool := objK (tlYo k o m) F c
noncomputable def tlYn (k : Nat → Tl → Bool) (v : Value) : Bool := match v with
  | .slice none m _ => ifK (k 0 (.ys 0 0)) (Nat.beq m 0)
  | _ => false
noncomputable def tlY (k : Nat → Tl → Bool) (F : FH) (x : FV) : Bool := onLS (tlYl k F) (tlYn k) (fun m y => k m (.ys m y)) false x
theorem bytes_part {N x o m : Nat} (h : o + m ≤ N) : ((bytesL N x).drop o).take m = bytesL m (Nat.shiftRight x (8 * o)) := by
  have e1 : (bytesL N x).drop o = bytesL (N - o) (Nat.shiftRight x (8 * o)) := by
    have := bytesL_drop o (N - o) x
    rwa [show o + (N - o) = N by omega] at this
  rw [e1]
  have := bytesL_take m (N - o - m) (Nat.shiftRight x (8 * o))
  rwa [show m + (N - o - m) = N - o by omega] at this
theorem rowA_of {c o m : Nat} {C : Array Value} {e : TypeId} {fr : Nat × Nat} (h : H.cells c = some (C, e, fr)) (hle : o + m ≤ C.size) : rowA H (some ⟨c, o, none⟩) m = some ((C.toList.drop o).take m) := by
  unfold rowA
  simp only [h, if_pos hle]
  rw [Array.toList_extract, List.extract_eq_take_drop, show o + m - o = m by omega]
theorem tlG_ok {k : Nat → Tl → Bool} {e : TypeId} {x : FV} (hH : HR F H) (h : tlG k F (szT P e) x = true) : ∃ m l, tailA P H e x.val = some (m, l.vals) ∧ k m l = true := by
  rcases onL_ok h with ⟨c, o, m, cap, rfl, h⟩ | ⟨v, rfl, h⟩ | h
  · obtain ⟨C, el, fr, l, h1, h2, h3, h4, h5⟩ := cellsK_ok hH h
    refine ⟨m, .cs l, ?_, h5⟩
    simp only [tailA, FV.val]
    rw [show rowA H (some ⟨c, o, none⟩) (m * szT P e) = _ from rowA_of h1 h2]
    simp only [Tl.vals, ← h3]
    rfl
  · replace h : tlNo k (szT P e) v = true := h
    unfold tlNo at h
    split at h
    case h_2 => cases h
    rename_i m cap _
    rw [natK_eq] at h
    obtain ⟨h1, h2⟩ := ifK_ok h
    have h1 : m * szT P e = 0 := Nat.eq_of_beq_eq_true h1
    refine ⟨m, .cs [], ?_, h2⟩
    simp only [tailA, FV.val, rowA, if_pos h1]
    rfl
  · cases h
theorem tlY_ok {k : Nat → Tl → Bool} {e : TypeId} {x : FV} (hH : HR F H) (hs : szT P e = 1) (h : tlY k F x = true) : ∃ m l, tailA P H e x.val = some (m, l.vals) ∧ k m l = true := by
  rcases onLS_ok h with ⟨c, o, m, cap, rfl, h⟩ | ⟨v, rfl, h⟩ | ⟨m, y, rfl, h⟩ | h
  · obtain ⟨ob, b, hb, hl, hO, h2⟩ := objK_ok hH (show objK (tlYo k o m) F c = true from h)
    cases ob with
    | cl => cases h2
    | it => cases h2
    | mp => cases h2
    | yy N x el lo hi =>
      obtain ⟨h3, h4⟩ := ifK_ok (show ifK (natK (fun y => k m (.ys m y)) (Nat.shiftRight x (Nat.mul 8 o))) (Nat.ble (Nat.add o m) N) = true from h2)
      rw [natK_eq] at h4
      have h3 : o + m ≤ N := Nat.le_of_ble_eq_true h3
      refine ⟨m, .ys m (Nat.shiftRight x (Nat.mul 8 o)), ?_, h4⟩
      simp only [tailA, FV.val, hs, Nat.mul_one]
      rw [rowA_of (cells_of hb hl hO) (by simpa [bytesL_len] using h3)]
      simp only [Tl.vals, ← List.map_drop, ← List.map_take]
      rw [bytes_part h3]; rfl
  · replace h : tlYn k v = true := h
    unfold tlYn at h
    split at h
    case h_2 => cases h
    rename_i m cap _
    obtain ⟨h1, h2⟩ := ifK_ok h
    have h1 : m = 0 := Nat.eq_of_beq_eq_true h1
    subst h1
    refine ⟨0, .ys 0 0, ?_, h2⟩
    simp only [tailA, FV.val, rowA, Nat.zero_mul, if_true]
    rfl
  · refine ⟨m, .ys m y, ?_, h⟩
    simp only [tailA, FV.val, hs, if_true, bytesA_size]
    rfl
  · cases h

/-! ### A row and what is laid behind -/
noncomputable def appL (l : List FV) (k : List FV → Bool) (a : List FV) : Bool := List.rec (motive := fun _ => (List FV → Bool) → Bool) (fun k => k l) (fun x _ ih k => ih (consK k x)) a k
theorem appL_ok {l : List FV} : ∀ (a : List FV) (k : List FV → Bool), appL l k a = true → k (a ++ l) = true
  | [], k, h => h
  | x :: a, k, h => appL_ok a (consK k x) h
noncomputable def jn2 (kk : FObj → Bool) (e lo hi : Nat) (a : List FV) : Bool := natK (fun m => layL (mkCl kk m e lo hi) a) (lenL a)
noncomputable def jnCl (kk : FObj → Bool) (e ns off lo hi : Nat) (l : List FV) (N : Nat) (t : Q FV) : Bool :=
  iteK (cellsQ t ns (appL l (jn2 kk e lo hi)) off) (natK (fun m => setL l (mkCl kk m e lo hi) N t) (Nat.add N (lenL l))) (Bool.and (Nat.beq off 0) (Nat.beq ns N))
noncomputable def jnYy (kk : FObj → Bool) (e ns off lo hi m y N x : Nat) : Bool := natK (fun x => natK (fun m => mkYy kk m e lo hi x) (Nat.add ns m)) (catN ns (Nat.shiftRight x (Nat.mul 8 off)) y)
noncomputable def jnO (kk : FObj → Bool) (e ns off lo hi : Nat) (tl : Tl) (o : FObj) : Bool :=
  FObj.rec (motive := fun _ => Bool) (fun N t _ _ _ => ifK (onTl (fun l => jnCl kk e ns off lo hi l N t) (fun _ _ => false) tl) (Nat.ble (Nat.add off ns) N)) (fun N x _ _ _ => ifK (onTl (fun _ => false) (fun m y => jnYy kk e ns off lo hi m y N x) tl) (Nat.ble (Nat.add off ns) N)) (fun _ _ _ => false) (fun _ _ => false) o
theorem jnO_ok {kk : FObj → Bool} {e ns off lo hi lo0 hi0 : Nat} {e0 : TypeId} {tl : Tl} {o : FObj} {C : Array Value} (hO : FObjR o (.cells C e0 (lo0, hi0))) (h : jnO kk e ns off lo hi tl o = true) :
    off + ns ≤ C.size ∧ ∃ o', FObjR o' (.cells ((C.toList.drop off).take ns ++ tl.vals).toArray e (lo, hi)) ∧ kk o' = true := by
  cases o with
  | it => cases h
  | mp => cases h
  | cl N t e1 lo1 hi1 =>
    obtain ⟨C', hC, h1, h2⟩ := hO
    cases hC
    obtain ⟨h3, h4⟩ := ifK_ok (show ifK (onTl (fun l => jnCl kk e ns off lo hi l N t) (fun _ _ => false) tl) (Nat.ble (Nat.add off ns) N) = true from h)
    have h3 : off + ns ≤ N := Nat.le_of_ble_eq_true h3
    refine ⟨by rw [h1]; exact h3, ?_⟩
    cases tl with
    | ys => cases h4
    | cs l =>
      rcases iteK_ok (show iteK _ _ _ = true from h4) with ⟨_, h5⟩ | ⟨h5, h6⟩
      · obtain ⟨a, h6, h7, h8, h9⟩ := cellsQ_ok h2 _ _ _ h5
        have h10 := appL_ok _ _ h9
        unfold jn2 at h10
        rw [natK_eq] at h10
        obtain ⟨q, h11, h12⟩ := layL_ok h10
        refine ⟨_, clR h11 ?_ (lenL_eq _), h12⟩
        show _ ++ _ = _
        rw [h6, FV.vals_eq, FV.vals_eq]
        show List.map FV.val a ++ FV.vals l = _
        rw [FV.vals_eq]; simp
      · rw [natK_eq] at h6
        simp only [Bool.and_eq_true] at h5
        have hoff : off = 0 := Nat.eq_of_beq_eq_true h5.1
        have hns : ns = N := Nat.eq_of_beq_eq_true h5.2
        subst hoff; subst hns
        obtain ⟨q, h7, h8⟩ := setL_ok (n := ns + l.length) l _ ns t (C ++ Array.replicate l.length undef) (by simp [h1]) (by omega) (fun j f hj => by
          have := h2 j f hj
          rw [Array.getElem?_append_left (Array.getElem?_eq_some_iff.1 this).1]; exact this) h6
        refine ⟨.cl (Nat.add ns (lenL l)) q e lo hi, ⟨_, rfl, ?_, fun j f hj => ?_⟩, h8⟩
        · have e5 : Nat.add ns (lenL l) = ns + l.length := by rw [lenL_eq]; rfl
          rw [e5]
          simp [FV.vals_eq, Tl.vals]
          omega
        · have := h7 j f hj
          rw [← Array.getElem?_toList, writeCells_all _ _ _ (by simp [FV.vals_eq, h1])] at this
          have e2 : (C ++ Array.replicate l.length undef).toList.take ns = C.toList := by
            simp only [Array.toList_append]
            rw [List.take_append_of_le_length (by simp [h1]), List.take_of_length_le (by simp [h1])]
          have e3 : (C ++ Array.replicate l.length undef).toList.drop (ns + (FV.vals l).length) = [] := by
            rw [List.drop_eq_nil_of_le]
            simp [FV.vals_eq, h1]
          rw [e2, e3, List.append_nil] at this
          rw [List.getElem?_toArray, List.drop_zero, List.take_of_length_le (by simp [h1])]
          exact this
  | yy N x e1 lo1 hi1 =>
    have hO : Obj.cells C e0 (lo0, hi0) = _ := hO
    cases hO
    obtain ⟨h3, h4⟩ := ifK_ok (show ifK (onTl (fun _ => false) (fun m y => jnYy kk e ns off lo hi m y N x) tl) (Nat.ble (Nat.add off ns) N) = true from h)
    have h3 : off + ns ≤ N := Nat.le_of_ble_eq_true h3
    refine ⟨by simpa [bytesL_len] using h3, ?_⟩
    cases tl with
    | cs => cases h4
    | ys m y =>
      have h4 : jnYy kk e ns off lo hi m y N x = true := h4
      unfold jnYy at h4
      rw [natK_eq, natK_eq] at h4
      refine ⟨.yy (Nat.add ns m) (catN ns (Nat.shiftRight x (Nat.mul 8 off)) y) e lo hi, ?_, h4⟩
      show Obj.cells _ e (lo, hi) = Obj.cells _ e (lo, hi)
      congr 2
      have : bytesL (ns + m) (catN ns (Nat.shiftRight x (8 * off)) y) = bytesL ns (Nat.shiftRight x (8 * off)) ++ bytesL m y := bytesL_app m y ns _
      show _ = (bytesL (ns + m) (catN ns (Nat.shiftRight x (8 * off)) y)).map byteC
      rw [this, List.map_append]
      simp only [Tl.vals, ← List.map_drop, ← List.map_take]
      rw [bytes_part h3]

/-! ### In place -/
noncomputable def upT (tl : Tl) (off : Nat) (k : FObj → Bool) (o : FObj) : Bool :=
  FObj.rec (motive := fun _ => Bool)
    (fun n t e lo hi => onTl (fun l => allC (natK (fun len => updCl l off len k n t e lo hi) (lenL l)) l) (fun _ _ => false) tl)
    (fun n x e lo hi => onTl (fun _ => false) (fun m y => ifK (frzK (natK (mkYy k n e lo hi) (setBy n x off m y)) off (Nat.add off m) lo hi) (Nat.ble (Nat.add off m) n)) tl)
    (fun _ _ _ => false) (fun _ _ => false) o
theorem upT_ok {tl : Tl} {off : Nat} {k : FObj → Bool} {o : FObj} {O : Obj} (hO : FObjR o O) (h : upT tl off k o = true) :
    ∃ C e lo hi, O = .cells C e (lo, hi) ∧ off + tl.vals.length ≤ C.size ∧ tl.vals.all isCell = true ∧ (decide (hi ≤ off) || decide (off + tl.vals.length ≤ lo) || lo == hi) = true ∧ ∃ o', FObjR o' (.cells (writeCells C off tl.vals) e (lo, hi)) ∧ k o' = true := by
  cases o with
  | it => cases h
  | mp => cases h
  | cl n t e lo hi =>
    cases tl with
    | ys => cases h
    | cs l =>
      obtain ⟨h1, h2⟩ := allC_ok (show allC (natK (fun len => updCl l off len k n t e lo hi) (lenL l)) l = true from h)
      rw [natK_eq, lenL_eq] at h2
      obtain ⟨C, e', lo', hi', h3, h4, h5, o', h6, h7⟩ := updO_ok (len := l.length) hO rfl (show updO l off l.length k (.cl n t e lo hi) = true from h2)
      exact ⟨C, e', lo', hi', h3, by simpa [Tl.vals, vals_len] using h4, h1, by simpa [Tl.vals, vals_len] using h5, o', h6, h7⟩
  | yy n x e lo hi =>
    cases tl with
    | cs => cases h
    | ys m y =>
      obtain ⟨h3, h4⟩ := ifK_ok (show ifK (frzK (natK (mkYy k n e lo hi) (setBy n x off m y)) off (Nat.add off m) lo hi) (Nat.ble (Nat.add off m) n) = true from h)
      obtain ⟨h5, h6⟩ := frzK_ok h4
      rw [natK_eq] at h6
      have h3 : off + m ≤ n := Nat.le_of_ble_eq_true h3
      have hl : (Tl.ys m y).vals.length = m := by simp [Tl.vals, bytesL_len]
      refine ⟨_, e, lo, hi, hO, by rw [hl]; simpa [bytesL_len] using h3, ?_, by rw [hl]; exact h5, .yy n (setBy n x off m y) e lo hi, ?_, h6⟩
      · simp only [Tl.vals, List.all_map]
        rw [List.all_eq_true]
        intro b _; rfl
      · show Obj.cells _ e (lo, hi) = Obj.cells _ e (lo, hi)
        congr 1
        apply Array.ext'
        rw [writeCells_all _ _ _ (by rw [hl]; simpa [bytesL_len] using h3), setBy_ok h3, hl]
        simp only [Tl.vals, List.map_append, List.map_take, List.map_drop]
theorem tl_size {tl : Tl} : (∃ x r, tl.vals = x :: r) ∨ tl.vals = [] := by cases tl.vals <;> simp

/-! ### append -/
/-- Is nothing laid behind? -/
noncomputable def tlE (k0 k1 : Bool) (tl : Tl) : Bool := onTl (fun l => List.rec (motive := fun _ => Bool) k1 (fun _ _ _ => k0) l) (fun m _ => Nat.rec (motive := fun _ => Bool) k1 (fun _ _ => k0) m) tl
theorem tlE_ok {k0 k1 : Bool} {tl : Tl} (h : tlE k0 k1 tl = true) : tl.vals ≠ [] ∧ k0 = true ∨ tl.vals = [] ∧ k1 = true := by
  cases tl with
  | cs l =>
    cases l with
    | nil => exact .inr ⟨rfl, h⟩
    | cons x r => exact .inl ⟨by simp [Tl.vals, FV.vals], h⟩
  | ys m y =>
    cases m with
    | zero => exact .inr ⟨rfl, h⟩
    | succ m => exact .inl ⟨by simp [Tl.vals, bytesL], h⟩
noncomputable def cpN (k : FV → FH → Bool) (nm root : Nat) (F : FH) (o : FObj) : Bool := copyG (slcK k nm nm) o root F
noncomputable def nwO (k : FV → FH → Bool) (nm : Nat) (F : FH) (o : FObj) : Bool := newG (slcK k nm nm) o F
noncomputable def elSz (k : Nat → Nat → Nat → Nat → Bool) (o : FObj) : Bool := FObj.rec (motive := fun _ => Bool) (fun n _ e lo hi => k n e lo hi) (fun n _ e lo hi => k n e lo hi) (fun _ _ _ => false) (fun _ _ => false) o
theorem elSz_ok {k : Nat → Nat → Nat → Nat → Bool} {o : FObj} {O : Obj} (hO : FObjR o O) (h : elSz k o = true) : ∃ C e lo hi, O = .cells C e (lo, hi) ∧ k C.size e lo hi = true := by
  cases o with
  | cl n t e lo hi => obtain ⟨C, rfl, rfl, _⟩ := hO; exact ⟨C, e, lo, hi, rfl, h⟩
  | yy n x e lo hi =>
    have h : k n e lo hi = true := h
    exact ⟨_, e, lo, hi, hO, by simpa [bytesL_len] using h⟩
  | it => cases h
  | mp => cases h
noncomputable def agX2 (k : FV → FH → Bool) (F : FH) (tl : Tl) (sz off n nm e : Nat) (o : FObj) (N e' lo hi : Nat) : Bool := ifK (jnO (nwO k nm F) e (Nat.mul n sz) off 0 0 tl o) (Nat.beq e' e)
noncomputable def agG3 (k : FV → FH → Bool) (F : FH) (tl : Tl) (sz off n cap nm e root c hd : Nat) (o : FObj) (N e' lo hi : Nat) : Bool :=
  ifK (iteK (ifK (ifK (ifK (jnO (cpN k nm root F) e (Nat.mul n sz) off (Nat.sub lo off) (Nat.sub hi off) tl o) (Nat.beq hd c)) (Nat.beq n cap)) (Nat.beq (Nat.add off (Nat.mul cap sz)) N)) (jnO (nwO k nm F) e (Nat.mul n sz) off 0 0 tl o) (Nat.ble (Nat.succ (Nat.add off (Nat.mul cap sz))) N)) (Nat.beq e' e)
noncomputable def agG2 (k : FV → FH → Bool) (F : FH) (tl : Tl) (sz off n cap nm e root c : Nat) (o : FObj) (hd fl : Nat) : Bool := ifK (elSz (agG3 k F tl sz off n cap nm e root c hd o) o) (Nat.ble fl c)
noncomputable def agR (f : Nat → Nat → Bool) (rb : FBlk) : Bool := FBlk.rec (motive := fun _ => Bool) (fun _ _ => false) (fun _ _ _ hd fl => f hd fl) rb
noncomputable def agG (k : FV → FH → Bool) (F : FH) (tl : Tl) (sz off n cap nm e c : Nat) (t : Q FBlk) (o : FObj) (root ver hd fl : Nat) : Bool :=
  iteK (Q.getK (agR (agG2 k F tl sz off n cap nm e root c o)) t root) (agG2 k F tl sz off n cap nm e root c o hd fl) (Nat.beq root c)
noncomputable def agB (k : FV → FH → Bool) (F : FH) (tl : Tl) (sz off n cap nm e c : Nat) (t : Q FBlk) (fb : FBlk) : Bool :=
  FBlk.rec (motive := fun _ => Bool) (fun o _ => elSz (agX2 k F tl sz off n nm e o) o) (agG k F tl sz off n cap nm e c t) fb
noncomputable def agF (k : FV → FH → Bool) (F : FH) (tl : Tl) (sz off n cap nm e c : Nat) : Bool := FH.rec (motive := fun _ => Bool) (fun t _ _ => Q.getK (agB k F tl sz off n cap nm e c t) t c) F
/-- The part of append that grows a row. -/
def growA (P : Program) (H : AH) (e : TypeId) (p : Addr) (n c m : Nat) (l : List Value) : Option (Value × AH) :=
  match p.spot, H.blk p.block, rowA H (some p) (n * szT P e) with
  | none, some b, some old => match b.obj with
    | .cells C e' (lo, hi) =>
      if e' ≠ e ∨ c < n then none
      else if b.exact = true ∨ p.off + c * szT P e < C.size then
        some (.slice (some ⟨H.next, 0, none⟩) (n + m) (n + m), H.alloc (.cells (old ++ l).toArray e) false)
      else if p.off + c * szT P e = C.size ∧ n = c ∧ H.tip p.block b = true then
        some (.slice (some ⟨H.next, 0, none⟩) (n + m) (n + m), H.copyOf (.cells (old ++ l).toArray e (lo - p.off, hi - p.off)) b.root)
      else none
    | _ => none
  | _, _, _ => none
theorem agF_ok {k : FV → FH → Bool} {tl : Tl} {off n cap m c : Nat} {e : TypeId} (hH : HR F H) (hnc : n ≤ cap) (h : agF k F tl (szT P e) off n cap (n + m) e c = true) :
    ∃ v F' H', growA P H e ⟨c, off, none⟩ n cap m tl.vals = some (FV.val v, H') ∧ HR F' H' ∧ k v F' = true := by
  obtain ⟨t, nx, ck⟩ := F
  have h : Q.getK (agB k ⟨t, nx, ck⟩ tl (szT P e) off n cap (n + m) e c t) t c = true := h
  obtain ⟨fb, h1, h2⟩ := Q.getK_ok h
  have hn : H.next = nx := hH.next
  cases fb with
  | xx o ver =>
    obtain ⟨b, hb, hO, _, hex, _, hl, ht⟩ := hH.xx h1
    obtain ⟨C, e', lo, hi, hC, h3⟩ := elSz_ok hO (show elSz (agX2 k ⟨t, nx, ck⟩ tl (szT P e) off n (n + m) e o) o = true from h2)
    obtain ⟨h4, h5⟩ := ifK_ok h3
    have h4 : e' = e := Nat.eq_of_beq_eq_true h4
    subst h4
    rw [hC] at hO
    obtain ⟨h6, o', h7, h8⟩ := jnO_ok hO h5
    obtain ⟨F', h9, h10⟩ := newG_ok hH h7 h8
    refine ⟨.ll H.next 0 (n + m) (n + m), F', _, ?_, h9, h10⟩
    unfold growA
    rw [show rowA H (some ⟨c, off, none⟩) (n * szT P e') = _ from rowA_of (cells_of hb hl hC) h6]
    simp only [hb, hC]
    rw [if_neg (by simp; omega), if_pos (.inl hex)]
    rfl
  | gg o root ver hd fl =>
    obtain ⟨b, hb, e1, e2, e3, e4, e5⟩ := hH.blk c _ h1
    have key : ∀ hd fl, H.grp root = (hd, fl) → agG2 k ⟨t, nx, ck⟩ tl (szT P e) off n cap (n + m) e root c o hd fl = true → ∃ v F' H', growA P H e ⟨c, off, none⟩ n cap m tl.vals = some (FV.val v, H') ∧ HR F' H' ∧ k v F' = true := fun hd fl hg h => by
      obtain ⟨h3, h4⟩ := ifK_ok h
      have hl : H.live c b = true := by rw [live_iff, e2, hg]; exact Nat.le_of_ble_eq_true h3
      obtain ⟨C, e', lo, hi, hC, h5⟩ := elSz_ok e4 h4
      obtain ⟨h6, h7⟩ := ifK_ok h5
      have h6 : e' = e := Nat.eq_of_beq_eq_true h6
      subst h6
      rw [hC] at e4
      rcases iteK_ok h7 with ⟨_, h8⟩ | ⟨h8, h9⟩
      · obtain ⟨g1, h9⟩ := ifK_ok h8
        obtain ⟨g2, h10⟩ := ifK_ok h9
        obtain ⟨g3, h11⟩ := ifK_ok h10
        have g1 : off + cap * szT P e' = C.size := Nat.eq_of_beq_eq_true g1
        have g2 : n = cap := Nat.eq_of_beq_eq_true g2
        have g3 : hd = c := Nat.eq_of_beq_eq_true g3
        obtain ⟨h12, o', h13, h14⟩ := jnO_ok e4 h11
        obtain ⟨F', h15, h16⟩ := copyG_ok hH hb e1 e2 h13 h14
        refine ⟨.ll H.next 0 (n + m) (n + m), F', _, ?_, h15, h16⟩
        unfold growA
        rw [show rowA H (some ⟨c, off, none⟩) (n * szT P e') = _ from rowA_of (cells_of hb hl hC) h12]
        simp only [hb, hC]
        rw [if_neg (by simp; omega), if_neg (by rw [e1]; simp; omega), if_pos ⟨g1, g2, by rw [tip_iff, e2, hg]; exact g3⟩, e2]
        rfl
      · have h8 : off + cap * szT P e' < C.size := Nat.le_of_ble_eq_true h8
        obtain ⟨h12, o', h13, h14⟩ := jnO_ok e4 h9
        obtain ⟨F', h15, h16⟩ := newG_ok hH h13 h14
        refine ⟨.ll H.next 0 (n + m) (n + m), F', _, ?_, h15, h16⟩
        unfold growA
        rw [show rowA H (some ⟨c, off, none⟩) (n * szT P e') = _ from rowA_of (cells_of hb hl hC) h12]
        simp only [hb, hC]
        rw [if_neg (by simp; omega), if_pos (.inr h8)]
        rfl
    rcases iteK_ok (show iteK _ _ _ = true from h2) with ⟨_, h3⟩ | ⟨h3, h4⟩
    · obtain ⟨rb, g1, g2⟩ := Q.getK_ok h3
      cases rb with
      | xx => cases g2
      | gg ro rr rv rh rf =>
        obtain ⟨b', hb', f1, f2, f3, f4, f5⟩ := hH.blk root _ g1
        exact key rh rf f5 g2
    · have h3 : root = c := Nat.eq_of_beq_eq_true h3
      subst h3
      exact key hd fl e5 h4
noncomputable def apIn (k : FV → FH → Bool) (F : FH) (tl : Tl) (sz c off n cap nm : Nat) : Bool :=
  tlE (wrK (upT tl (Nat.add off (Nat.mul n sz))) (k (.ll c off nm cap)) F c) (objK (elSz fun _ _ _ _ => k (.ll c off nm cap) F) F c) tl
noncomputable def apGr (k : FV → FH → Bool) (F : FH) (tl : Tl) (sz by_ e c off n cap nm : Nat) : Bool :=
  ifK (ifK (ifK (agF k F tl sz off n cap nm e c) (Nat.ble n cap)) (Nat.ble nm 140737488355328)) (Nat.ble (Nat.mul nm by_) 140737488355328)
noncomputable def apLl (k : FV → FH → Bool) (F : FH) (sz by_ e : Nat) (m : Nat) (tl : Tl) (c off n cap : Nat) : Bool :=
  natK (fun nm => iteK (apGr k F tl sz by_ e c off n cap nm) (apIn k F tl sz c off n cap nm) (Nat.ble nm cap)) (Nat.add n m)
noncomputable def clTl (k : FObj → Bool) (e : Nat) (tl : Tl) : Bool := onTl (fun l => jn2 k e 0 0 l) (fun m y => k (.yy m y e 0 0)) tl
noncomputable def apNo (k : FV → FH → Bool) (F : FH) (by_ e : Nat) (m : Nat) (tl : Tl) (v : Value) : Bool := match v with
  | .slice none n cap => ifK (ifK (tlE (ifK (ifK (clTl (fun o => newG (slcK k m m) o F) e tl) (Nat.ble m 140737488355328)) (Nat.ble (Nat.mul m by_) 140737488355328)) (ifK (k (.oo (.slice none 0 0)) F) (Nat.beq m 0)) tl) (Nat.beq cap 0)) (Nat.beq n 0)
  | _ => false
noncomputable def app2 (k : FV → FH → Bool) (F : FH) (sz by_ e : Nat) (s : FV) (m : Nat) (tl : Tl) : Bool := onL (apLl k F sz by_ e m tl) (apNo k F by_ e m tl) false s
theorem clTl_ok {k : FObj → Bool} {e : Nat} {tl : Tl} (h : clTl k e tl = true) : ∃ o, FObjR o (.cells tl.vals.toArray e (0, 0)) ∧ k o = true := by
  cases tl with
  | cs l =>
    have h : jn2 k e 0 0 l = true := h
    unfold jn2 at h
    rw [natK_eq] at h
    obtain ⟨q, h1, h2⟩ := layL_ok h
    exact ⟨_, clR h1 rfl (lenL_eq _), h2⟩
  | ys m y => exact ⟨.yy m y e 0 0, rfl, h⟩
theorem app2_ok {k : FV → FH → Bool} {s x : FV} {m : Nat} {tl : Tl} {sT e : TypeId} {xT : Option TypeId} {xd : TypeDesc} {z : Value} (hH : HR F H) (he : elemT P sT = some e) (hx : xT.bind P.underlying = some xd) (hnx : notInt xd = true)
    (ht : tailA P H e x.val = some (m, tl.vals)) (hz : zeroT P e = some z) (hs : 0 < bytesT P e ∧ 0 < szT P e ∧ z.cells.size = szT P e) (hml : m = 0 → tl.vals = []) (h : app2 k F (szT P e) (bytesT P e) e s m tl = true) :
    ∃ v F' H', appendA P H sT xT s.val x.val = some (FV.val v, H') ∧ HR F' H' ∧ k v F' = true := by
  rcases onL_ok h with ⟨c, off, n, cap, rfl, h⟩ | ⟨v, rfl, h⟩ | h
  · replace h : apLl k F (szT P e) (bytesT P e) e m tl c off n cap = true := h
    unfold apLl at h
    rw [natK_eq] at h
    have happ : appendA P H sT xT (FV.ll c off n cap).val x.val = if n + m ≤ cap then
        (match tl.vals with
        | [] => match H.cells c with
          | some _ => some (.slice (some ⟨c, off, none⟩) (n + m) cap, H)
          | none => none
        | l => match storeCellsA H ((⟨c, off, none⟩ : Addr).add (n * szT P e)) l with
          | some H' => some (.slice (some ⟨c, off, none⟩) (n + m) cap, H')
          | none => none)
      else if (n + m) * bytesT P e ≤ 140737488355328 ∧ n + m ≤ 140737488355328 ∧ 0 < bytesT P e ∧ 0 < szT P e ∧ z.cells.size = szT P e then growA P H e ⟨c, off, none⟩ n cap m tl.vals else none := by
      unfold appendA
      simp only [he, hx, FV.val, hnx, ht, hz]
      split
      · cases tl.vals <;> rfl
      · rfl
    rcases iteK_ok h with ⟨h1, h2⟩ | ⟨h1, h2⟩
    · have h1 : ¬ n + m ≤ cap := fun hle => by
        have : Nat.ble (Nat.add n m) cap = true := Nat.ble_eq_true_of_le hle
        rw [this] at h1; cases h1
      obtain ⟨g1, h3⟩ := ifK_ok h2
      obtain ⟨g2, h4⟩ := ifK_ok h3
      obtain ⟨g3, h5⟩ := ifK_ok h4
      obtain ⟨v, F', H', h6, h7, h8⟩ := agF_ok (m := m) hH (Nat.le_of_ble_eq_true g3) h5
      exact ⟨v, F', H', by rw [happ, if_neg h1, if_pos ⟨Nat.le_of_ble_eq_true g1, Nat.le_of_ble_eq_true g2, hs⟩]; exact h6, h7, h8⟩
    · have h1 : n + m ≤ cap := Nat.le_of_ble_eq_true h1
      rcases tlE_ok h2 with ⟨hne, h3⟩ | ⟨hne, h3⟩
      · obtain ⟨b, o, hb, hl, htp, hO, co, h4, h5⟩ := wrK_ok hH h3
        obtain ⟨C, e', lo, hi, hC, h6, h7, h8, o', h9, h10⟩ := upT_ok hO h4
        obtain ⟨F', h11, h12⟩ := h5 o' h10 _ h9 (by rw [hC]; exact ⟨(writeCells_sz _ _ _).symm, rfl⟩)
        refine ⟨_, F', _, ?_, h11, h12⟩
        rw [happ, if_pos h1]
        have hst : storeCellsA H ((⟨c, off, none⟩ : Addr).add (n * szT P e)) tl.vals = some (H.put c b (.cells (writeCells C (off + n * szT P e) tl.vals) e' (lo, hi))) := by
          rw [addr_add]
          unfold storeCellsA
          simp only [hb, hC]
          rw [if_pos]
          rw [hl, htp, h7]
          rw [show (decide (hi ≤ off + n * szT P e) || decide (off + n * szT P e + tl.vals.length ≤ lo) || lo == hi) = true from h8]
          have h6 : off + n * szT P e + tl.vals.length ≤ C.size := h6
          simp [h6]
        cases hv : tl.vals with
        | nil => exact absurd hv hne
        | cons y r =>
          rw [hv] at hst
          simp only [hst]
          rfl
      · obtain ⟨o, b, hb, hl, hO, h4⟩ := objK_ok hH h3
        obtain ⟨C, e', lo, hi, hC, h5⟩ := elSz_ok hO h4
        refine ⟨_, F, H, ?_, hH, h5⟩
        rw [happ, if_pos h1, hne]
        simp only [cells_of hb hl hC]
        rfl
  · replace h : apNo k F (bytesT P e) e m tl v = true := h
    unfold apNo at h
    split at h
    case h_2 => cases h
    rename_i n cap _
    obtain ⟨g1, h1⟩ := ifK_ok h
    obtain ⟨g2, h2⟩ := ifK_ok h1
    have g1 : n = 0 := Nat.eq_of_beq_eq_true g1
    have g2 : cap = 0 := Nat.eq_of_beq_eq_true g2
    subst g1; subst g2
    rcases tlE_ok h2 with ⟨hne, h3⟩ | ⟨hne, h3⟩
    · obtain ⟨g3, h4⟩ := ifK_ok h3
      obtain ⟨g4, h5⟩ := ifK_ok h4
      obtain ⟨o, h6, h7⟩ := clTl_ok h5
      obtain ⟨F', h8, h9⟩ := newG_ok hH h6 h7
      refine ⟨.ll H.next 0 m m, F', _, ?_, h8, h9⟩
      have hm : m ≠ 0 := fun e => hne (hml e)
      have g3 : m * bytesT P e ≤ 140737488355328 := Nat.le_of_ble_eq_true g3
      have g4 : m ≤ 140737488355328 := Nat.le_of_ble_eq_true g4
      unfold appendA
      simp only [he, hx, FV.val, hnx, ht, hz]
      rw [if_neg (by omega), if_pos (by simp only [Nat.zero_add]; exact ⟨g3, g4, hs⟩)]
      simp only [if_true, Nat.zero_add]
    · obtain ⟨g3, h4⟩ := ifK_ok h3
      have g3 : m = 0 := Nat.eq_of_beq_eq_true g3
      subst g3
      refine ⟨_, F, H, ?_, hH, h4⟩
      unfold appendA
      simp only [he, hx, FV.val, hnx, ht, hz, hne]
      rfl
  · cases h
end
end Go.Proofs.YtenolmhnmcjndaaGreatDoor.Ev
namespace Go.Proofs.YtenolmhnmcjndaaGreatDoor.Ev
set_option linter.unusedVariables false
set_option linter.unusedSimpArgs false
open Go
section
variable {E : Type} {I : EnvI E} {n : Nat} {P : Program} {F : FH} {H : AH}

/-! ### Conversions -/
noncomputable def cvSB (I : EnvI E) (n : Nat) (e : TypeId) (x : Operand) : BodyK E := GetK.rec (motive := fun _ => BodyK E) (fun gx => ⟨fun _ k t F => onS (fun n x => natK (fun n1 => newG (slcK k n n) (.yy n x e n n1) F) (Nat.succ n)) false (gx t)⟩) (opdS I n x)
theorem cvSB_ok {o : Oper} {src dst e : TypeId} {x : Operand} (ho : o.op = .convert src dst x) (hs : P.underlying src = some .string) (hd : P.underlying dst = some (.slice e)) (he : P.underlying e = some (.int .u8)) (hz : szT P e = 1) : BodyOk I n P o (cvSB I n e x) := fun call ca ev en F H k hc hr hH h => by
  have h : onS (fun n x => natK (fun n1 => newG (slcK k n n) (.yy n x e n n1) F) (Nat.succ n)) false ((opdS I n x).run ev) = true := h
  rcases onS_ok h with ⟨m, s, hx, h⟩ | h
  · rw [natK_eq] at h
    have hx : rho en x = .string (bytesA m s) := by rw [← opdS_ok hr, hx]; rfl
    obtain ⟨F', h1, h2⟩ := newG_ok (o := .yy m s e m (m + 1)) hH rfl h
    refine ⟨.ll H.next 0 m m, F', _, ?_, h1, h2⟩
    unfold evOp
    simp only [ho, convertA, hs, hd, hx, he, hz]
    have e1 : (bytesA m s).data.map (fun b => Value.int .u8 (b.toNat : Int)) = ((bytesL m s).map byteC).toArray := by
      apply Array.ext'
      simp [bytesA]
      intro a _; rfl
    rw [e1, bytesA_size]
    rfl
  · cases h
noncomputable def ofBy (k : FV → FH → Bool) (F : FH) (o n : Nat) (ob : FObj) : Bool := FObj.rec (motive := fun _ => Bool) (fun _ _ _ _ _ => false) (fun N x _ _ _ => ifK (natK (fun y => k (.ss n y) F) (Nat.shiftRight x (Nat.mul 8 o))) (Nat.ble (Nat.add o n) N)) (fun _ _ _ => false) (fun _ _ => false) ob
noncomputable def cvBSn (k : FV → FH → Bool) (F : FH) (v : Value) : Bool := match v with
  | .slice none m _ => ifK (k (.ss 0 0) F) (Nat.beq m 0)
  | _ => false
noncomputable def cvBS (I : EnvI E) (n : Nat) (x : Operand) : BodyK E := GetK.rec (motive := fun _ => BodyK E) (fun gx => ⟨fun _ k t F => onL (fun c o n _ => objK (ofBy k F o n) F c) (cvBSn k F) false (gx t)⟩) (opdS I n x)
theorem bytesOfCells_by : ∀ l : List UInt8, bytesOfCells (l.map byteC) = some l
  | [] => rfl
  | b :: r => by
    simp only [List.map_cons, byteC, bytesOfCells, bytesOfCells_by r]
    congr 2
    apply UInt8.toNat.inj
    simp
theorem cvBS_ok {o : Oper} {src dst e : TypeId} {x : Operand} (ho : o.op = .convert src dst x) (hs : P.underlying src = some (.slice e)) (hd : P.underlying dst = some .string) (he : P.underlying e = some (.int .u8)) : BodyOk I n P o (cvBS I n x) := fun call ca ev en F H k hc hr hH h => by
  have h : onL (fun c o n _ => objK (ofBy k F o n) F c) (cvBSn k F) false ((opdS I n x).run ev) = true := h
  rcases onL_ok h with ⟨c, off, m, cap, hx, h⟩ | ⟨v, hx, h⟩ | h
  · have hx : rho en x = .slice (some ⟨c, off, none⟩) m cap := by rw [← opdS_ok hr, hx]; rfl
    obtain ⟨ob, b, hb, hl, hO, h2⟩ := objK_ok hH h
    cases ob with
    | cl => cases h2
    | it => cases h2
    | mp => cases h2
    | yy N s el lo hi =>
      obtain ⟨h3, h4⟩ := ifK_ok (show ifK _ (Nat.ble (Nat.add off m) N) = true from h2)
      rw [natK_eq] at h4
      have h3 : off + m ≤ N := Nat.le_of_ble_eq_true h3
      refine ⟨_, F, H, ?_, hH, h4⟩
      unfold evOp
      simp only [ho, convertA, hs, hd, hx, he]
      rw [rowA_of (cells_of hb hl hO) (by simpa [bytesL_len] using h3)]
      simp only [← List.map_drop, ← List.map_take]
      rw [bytes_part h3, bytesOfCells_by]
      rfl
  · have h : cvBSn k F v = true := h
    unfold cvBSn at h
    split at h
    case h_2 => cases h
    rename_i m cap _
    obtain ⟨h1, h2⟩ := ifK_ok h
    have h1 := Nat.eq_of_beq_eq_true h1
    subst h1
    have hx : rho en x = .slice none 0 cap := by rw [← opdS_ok hr, hx]; rfl
    refine ⟨.ss 0 0, F, H, ?_, hH, h2⟩
    unfold evOp
    simp only [ho, convertA, hs, hd, hx, he, rowA, if_true, bytesOfCells]
    rfl
  · cases h
/-- Texts as rows of runes, and back: by hand of the model. -/
noncomputable def cvSR2 (k : FV → FH → Bool) (F : FH) (e : TypeId) (l : List FV) : Bool := natK (fun m => layL (fun q => newG (slcK k m m) (.cl m q e 0 0) F) l) (lenL l)
noncomputable def runesVm (n x : Nat) (k : List FV → Bool) : Nat → Nat → Bool := fun fu => Nat.rec (motive := fun _ => (List FV → Bool) → Nat → Bool) (fun k _ => k []) (fun _ ih k pos =>
  iteK (k []) (natK (fun b => iteK (natK (fun r => natK (fun w => ih (fun l => k (.ii .i32 (.ofNat r) :: l)) (Nat.add pos w)) (Utf8.decode (bytesA n x) pos).2) (Utf8.decode (bytesA n x) pos).1) (natK (fun p => ih (fun l => k (.ii .i32 (.ofNat b) :: l)) p) (Nat.succ pos)) (Nat.ble (Nat.succ b) 128)) (Nat.mod (Nat.shiftRight x (Nat.mul 8 pos)) 256)) (Nat.ble (Nat.succ pos) n)) fu k
theorem runesVm_ok {m s : Nat} : ∀ (fu : Nat) (k : List FV → Bool) (pos : Nat) (acc : Array Value), runesVm m s k fu pos = true → ∃ l, Conv.runesFrom (bytesA m s) fu pos acc = acc ++ (FV.vals l).toArray ∧ (FV.vals l).all flat1 = true ∧ k l = true
  | 0, k, pos, acc, h => ⟨[], by simp [Conv.runesFrom, FV.vals], rfl, h⟩
  | fu + 1, k, pos, acc, h => by
    rcases iteK_ok (show iteK (k []) _ (Nat.ble (Nat.succ pos) m) = true from h) with ⟨h1, h2⟩ | ⟨h1, h2⟩
    · have h1 : ¬ pos < m := fun hlt => by rw [Nat.ble_eq_true_of_le hlt] at h1; cases h1
      refine ⟨[], ?_, rfl, h2⟩
      rw [Conv.runesFrom, if_neg (by rw [bytesA_size]; exact h1)]
      simp [FV.vals]
    · have h1 : pos < m := Nat.le_of_ble_eq_true h1
      have go : ∀ d : Nat × Nat, Utf8.decode (bytesA m s) pos = d → ∀ k2, runesVm m s k2 fu (pos + d.2) = true → (∀ l, k2 l = true → k (.ii .i32 (.ofNat d.1) :: l) = true) → ∃ l, Conv.runesFrom (bytesA m s) (fu + 1) pos acc = acc ++ (FV.vals l).toArray ∧ (FV.vals l).all flat1 = true ∧ k l = true := fun d hd k2 h3 h4 => by
        obtain ⟨l, h5, h6, h7⟩ := runesVm_ok fu k2 (pos + d.2) (acc.push (.int .i32 (Int.ofNat d.1))) h3
        refine ⟨_ :: l, ?_, ?_, h4 l h7⟩
        · rw [Conv.runesFrom, if_pos (by rw [bytesA_size]; exact h1), hd]
          simp only
          rw [h5]
          simp [FV.vals, FV.val]
        · rw [FV.vals, List.all_cons, h6]; rfl
      rw [natK_eq] at h2
      rcases iteK_ok h2 with ⟨_, h3⟩ | ⟨h3, h4⟩
      · rw [natK_eq, natK_eq] at h3
        exact go _ rfl _ h3 (fun l hl => hl)
      · rw [natK_eq] at h4
        exact go _ (decode_ascii h1 (Nat.le_of_ble_eq_true h3)) _ h4 (fun l hl => hl)
noncomputable def cvSR (I : EnvI E) (n : Nat) (e : TypeId) (x : Operand) : BodyK E := GetK.rec (motive := fun _ => BodyK E) (fun gx => ⟨fun _ k t F => onS (fun n x => runesVm n x (cvSR2 k F e) n 0) false (gx t)⟩) (opdS I n x)
theorem cvSR_ok {o : Oper} {src dst e : TypeId} {x : Operand} (ho : o.op = .convert src dst x) (hs : P.underlying src = some .string) (hd : P.underlying dst = some (.slice e)) (he : P.underlying e = some (.int .i32)) (hz : szT P e = 1) : BodyOk I n P o (cvSR I n e x) := fun call ca ev en F H k hc hr hH h => by
  have h : onS (fun n x => runesVm n x (cvSR2 k F e) n 0) false ((opdS I n x).run ev) = true := h
  rcases onS_ok h with ⟨m, s, hx, h⟩ | h
  · have hx : rho en x = .string (bytesA m s) := by rw [← opdS_ok hr, hx]; rfl
    obtain ⟨l, h1, h2, h3⟩ := runesVm_ok m _ 0 #[] h
    unfold cvSR2 at h3
    rw [natK_eq] at h3
    obtain ⟨q, h4, h5⟩ := layL_ok h3
    obtain ⟨F', h6, h7⟩ := newG_ok hH (clR (C := (FV.vals l).toArray) (e := e) (lo := 0) (hi := 0) h4 rfl (lenL_eq l)) h5
    refine ⟨.ll H.next 0 l.length l.length, F', _, ?_, h6, by rw [lenL_eq] at h7; exact h7⟩
    unfold evOp
    simp only [ho, convertA, hs, hd, hx, he, hz, bytesA_size]
    rw [h1]
    simp only [Array.empty_append, h2, cond_true]
    simp [vals_len, FV.val]
  · cases h
noncomputable def ruB (k : Nat → Nat → Bool) (len acc : Nat) (kd : IntKind) (b : Int) : Bool :=
  ifK (natK (fun m => natK (fun y => natK (fun len' => natK (fun acc' => k len' acc') (catN len acc y)) (Nat.add len m)) (packL (Utf8.encode b).data.toList)) (Utf8.encode b).data.toList.length) (decide (kd = .i32))
noncomputable def ruL (l : List FV) (k : Nat → Nat → Bool) : Nat → Nat → Bool := List.rec (motive := fun _ => Nat → Nat → Bool) (fun len acc => k len acc) (fun v _ ih len acc => onInt (fun _ => false) (ruB ih len acc) false v) l
theorem ruL_ok : ∀ (l : List FV) (k : Nat → Nat → Bool) (len acc : Nat), ruL l k len acc = true → ∃ len' acc', runesOfCells (FV.vals l) (bytesA len acc) = some (bytesA len' acc') ∧ k len' acc' = true
  | [], k, len, acc, h => ⟨len, acc, rfl, h⟩
  | v :: r, k, len, acc, h => by
    rcases onInt_ok (show onInt (fun _ => false) (ruB (ruL r k) len acc) false v = true from h) with ⟨_, _, h⟩ | ⟨kd, b, rfl, h⟩ | h
    · cases h
    · obtain ⟨h1, h2⟩ := ifK_ok h
      have h1 : kd = .i32 := of_decide_eq_true h1
      subst h1
      rw [natK_eq, natK_eq, natK_eq, natK_eq] at h2
      obtain ⟨len', acc', h3, h4⟩ := ruL_ok r k _ _ h2
      refine ⟨len', acc', ?_, h4⟩
      rw [FV.vals, FV.val, runesOfCells, ← h3]
      congr 1
      have : Utf8.encode b = bytesA (Utf8.encode b).data.toList.length (packL (Utf8.encode b).data.toList) := by
        apply ByteArray.ext
        apply Array.ext'
        simp only [bytesA, bytesL_pack]
      conv => lhs; rw [this]
      rw [cat_ok]; rfl
    · cases h
noncomputable def cvRSn (k : FV → FH → Bool) (F : FH) (v : Value) : Bool := match v with
  | .slice none m _ => ifK (k (.ss 0 0) F) (Nat.beq m 0)
  | _ => false
noncomputable def cvRS (I : EnvI E) (n : Nat) (x : Operand) : BodyK E := GetK.rec (motive := fun _ => BodyK E) (fun gx => ⟨fun _ k t F => onL (fun c o n _ => cellsK (fun l => ruL l (fun len acc => k (.ss len acc) F) 0 0) F c o n) (cvRSn k F) false (gx t)⟩) (opdS I n x)
theorem cvRS_ok {o : Oper} {src dst e : TypeId} {x : Operand} (ho : o.op = .convert src dst x) (hs : P.underlying src = some (.slice e)) (hd : P.underlying dst = some .string) (he : P.underlying e = some (.int .i32)) : BodyOk I n P o (cvRS I n x) := fun call ca ev en F H k hc hr hH h => by
  have h : onL (fun c o n _ => cellsK (fun l => ruL l (fun len acc => k (.ss len acc) F) 0 0) F c o n) (cvRSn k F) false ((opdS I n x).run ev) = true := h
  have e0 : bytesA 0 0 = ByteArray.empty := rfl
  rcases onL_ok h with ⟨c, off, m, cap, hx, h⟩ | ⟨v, hx, h⟩ | h
  · have hx : rho en x = .slice (some ⟨c, off, none⟩) m cap := by rw [← opdS_ok hr, hx]; rfl
    obtain ⟨C, el, fr, l, h1, h2, h3, h4, h5⟩ := cellsK_ok hH h
    obtain ⟨len', acc', h6, h7⟩ := ruL_ok l _ 0 0 h5
    refine ⟨.ss len' acc', F, H, ?_, hH, h7⟩
    unfold evOp
    simp only [ho, convertA, hs, hd, hx, he]
    rw [rowA_of h1 h2, h3]
    simp only
    rw [← e0, h6]
    rfl
  · have h : cvRSn k F v = true := h
    unfold cvRSn at h
    split at h
    case h_2 => cases h
    rename_i m cap _
    obtain ⟨h1, h2⟩ := ifK_ok h
    have h1 := Nat.eq_of_beq_eq_true h1
    subst h1
    have hx : rho en x = .slice none 0 cap := by rw [← opdS_ok hr, hx]; rfl
    refine ⟨.ss 0 0, F, H, ?_, hH, h2⟩
    unfold evOp
    simp only [ho, convertA, hs, hd, hx, he, rowA, if_true, runesOfCells]
    rfl
  · cases h
/-- The same row of bytes, of its own type: the place behind is marked. -/
noncomputable def mkO (co : FObj → Bool) (o : FObj) : Bool := FObj.rec (motive := fun _ => Bool) (fun _ _ _ _ _ => false) (fun N x e lo hi => ifK (ifK (ifK (natK (fun n1 => co (.yy N x e N n1)) (Nat.succ N)) (Nat.ble 1 N)) (Nat.beq hi 0)) (Nat.beq lo 0)) (fun _ _ _ => false) (fun _ _ => false) o
noncomputable def xxB (k : Bool) (fb : FBlk) : Bool := FBlk.rec (motive := fun _ => Bool) (fun _ _ => k) (fun _ _ _ _ _ => false) fb
noncomputable def cvSm (k : FV → FH → Bool) (F : FH) (c o n cap : Nat) : Bool := ifK (FH.rec (motive := fun _ => Bool) (fun t _ _ => Q.getK (xxB (wrK mkO (k (.ll c o n cap)) F c)) t c) F) (Nat.ble 1 n)
noncomputable def cvBB (I : EnvI E) (n : Nat) (x : Operand) : BodyK E := GetK.rec (motive := fun _ => BodyK E) (fun gx => ⟨fun _ k t F => onL (cvSm k F) (fun _ => false) false (gx t)⟩) (opdS I n x)
theorem cvBB_ok {o : Oper} {src e : TypeId} {x : Operand} (ho : o.op = .convert src src x) (hs : P.underlying src = some (.slice e)) (he : P.underlying e = some (.int .u8)) : BodyOk I n P o (cvBB I n x) := fun call ca ev en F H k hc hr hH h => by
  have h : onL (cvSm k F) (fun _ => false) false ((opdS I n x).run ev) = true := h
  rcases onL_ok h with ⟨c, off, m, cap, hx, h⟩ | ⟨v, hx, h⟩ | h
  · have hx : rho en x = .slice (some ⟨c, off, none⟩) m cap := by rw [← opdS_ok hr, hx]; rfl
    obtain ⟨h1, h2⟩ := ifK_ok h
    have h1 : 0 < m := Nat.le_of_ble_eq_true h1
    have h2' : Q.getK (xxB (wrK mkO (k (.ll c off m cap)) F c)) F.t c = true := h2
    obtain ⟨fb, h3, h4⟩ := Q.getK_ok h2'
    cases fb with
    | gg => cases h4
    | xx o' ver =>
      obtain ⟨b, hb, hO, _, hex, _, hl, ht⟩ := hH.xx h3
      obtain ⟨b1, o1, hb1, _, _, hO1, co, h5, h6⟩ := wrK_ok hH (show wrK mkO (k (.ll c off m cap)) F c = true from h4)
      rw [hb] at hb1; cases hb1
      cases o1 with
      | cl => cases h5
      | it => cases h5
      | mp => cases h5
      | yy N s el lo hi =>
        obtain ⟨g1, h7⟩ := ifK_ok (show ifK _ (Nat.beq lo 0) = true from h5)
        obtain ⟨g2, h8⟩ := ifK_ok h7
        obtain ⟨g3, h9⟩ := ifK_ok h8
        rw [natK_eq] at h9
        have g1 : lo = 0 := Nat.eq_of_beq_eq_true g1
        have g2 : hi = 0 := Nat.eq_of_beq_eq_true g2
        subst g1; subst g2
        have hO1 : b.obj = .cells ((bytesL N s).map byteC).toArray el (0, 0) := hO1
        obtain ⟨F', h10, h11⟩ := h6 _ h9 (.cells ((bytesL N s).map byteC).toArray el (N, N + 1)) rfl (by rw [hO1]; exact ⟨rfl, rfl⟩)
        refine ⟨_, F', _, ?_, h10, h11⟩
        have hN : ((bytesL N s).map byteC).toArray.size = N := by simp [bytesL_len]
        unfold evOp
        simp only [ho, convertA, hs, hx, he, Nat.beq_refl, show Nat.beq src src = true from Nat.beq_refl src, markedA, hb, hO1]
        rw [if_pos ⟨hl, ht, hex, h1, trivial, trivial, by rw [hN]; exact Nat.le_of_ble_eq_true g3⟩, hN]
        rfl
  · cases h
  · cases h
/-- Between kinds of numbers. -/
def kindMax : IntKind → Nat
  | .i8 => 127 | .i16 => 32767 | .i32 => 2147483647 | .i64 => 9223372036854775807 | .u8 => 255 | .u16 => 65535 | .u32 => 4294967295 | .u64 => 18446744073709551615
def kindV (kd : IntKind) (n : Nat) : FV := match kd with
  | .i64 => .nn n
  | kd => .ii kd (.ofNat n)
noncomputable def cvN (kd : IntKind) (mx : Nat) (k : FV → FH → Bool) (F : FH) (z : Bool) (a : Nat) : Bool := iteK z (k (kindV kd a) F) (Nat.ble a mx)
noncomputable def cvI (kd : IntKind) (mx : Nat) (k : FV → FH → Bool) (F : FH) (z : Bool) (kd' : IntKind) (a : Int) : Bool := Int.rec (motive := fun _ => Bool) (cvN kd mx k F z) (fun _ => z) a
noncomputable def cvII (I : EnvI E) (n : Nat) (P : Program) (o : Oper) (kd : IntKind) (x : Operand) : BodyK E :=
  natR (fun mx => GetK.rec (motive := fun _ => BodyK E) (fun gx => ⟨fun _ k t F => onInt (cvN kd mx k F (flatK I n P o (fun v => k v F) t)) (cvI kd mx k F (flatK I n P o (fun v => k v F) t)) (flatK I n P o (fun v => k v F) t) (gx t)⟩) (opdS I n x)) (kindMax kd)
theorem wrap_kind {kd : IntKind} {a : Nat} (h : a ≤ kindMax kd) : kd.wrap (a : Int) = a := by
  cases kd <;> simp only [kindMax] at h <;> simp only [IntKind.wrap, IntKind.bits, IntKind.signed] <;> simp <;> omega
theorem kindV_val (kd : IntKind) (a : Nat) : (kindV kd a).val = .int kd a := by cases kd <;> rfl
theorem cvII_ok {o : Oper} {src dst : TypeId} {x : Operand} {ks kd : IntKind} (ho : o.op = .convert src dst x) (hs : P.underlying src = some (.int ks)) (hd : P.underlying dst = some (.int kd)) : BodyFlat I n P o (cvII I n P o kd x) := fun call ev en F k hr h => by
  unfold cvII at h
  rw [natR_eq] at h
  have h : onInt (cvN kd (kindMax kd) k F (flatK I n P o (fun v => k v F) ev)) (cvI kd (kindMax kd) k F (flatK I n P o (fun v => k v F) ev)) (flatK I n P o (fun v => k v F) ev) ((opdS I n x).run ev) = true := h
  have hcn : ∀ y, convertA P AH.empty src dst y = none := fun y => by unfold convertA; rw [hs, hd]
  have hcn' : ∀ H y, convertA P H src dst y = none := fun H y => by unfold convertA; rw [hs, hd]
  have flat : flatK I n P o (fun v => k v F) ev = true → ∃ v : FV, (∀ ca H, HR F H → evOp P ca o (rho en) H = some (v.val, H)) ∧ k v F = true := fun hf => by
    obtain ⟨v, h1, h2⟩ := flatK_ok hr hf
    refine ⟨v, fun ca H _ => ?_, h2⟩
    unfold evOp
    simp only [ho, hcn', h1, Option.map_some]
  have fast : ∀ (a : Nat) (k2 : IntKind), rho en x = .int k2 a → cvN kd (kindMax kd) k F (flatK I n P o (fun v => k v F) ev) a = true → ∃ v : FV, (∀ ca H, HR F H → evOp P ca o (rho en) H = some (v.val, H)) ∧ k v F = true := fun a k2 hx hf => by
    rcases iteK_ok hf with ⟨_, hf⟩ | ⟨h1, h2⟩
    · exact flat hf
    · have h1 := Nat.le_of_ble_eq_true h1
      refine ⟨_, fun ca H _ => ?_, h2⟩
      have hf : flatOp P o (rho en) = some (.int kd a) := by
        refine flat_op (by rw [ho]; simp [Op.operands, hx, flatB, flat2, flat1, atomB]) ?_ rfl
        unfold execOp
        rw [ho]
        simp only [hx, convert, pr_bind, pr_pure, Option.bind_some, pr_underlying hs, pr_underlying hd, Conv.intToInt, wrap_kind h1]
      unfold evOp
      simp only [ho, hcn', hf, Option.map_some, kindV_val]
  rcases onInt_ok h with ⟨a, hx, h⟩ | ⟨k2, a, hx, h⟩ | h
  · exact fast a .i64 (by rw [← opdS_ok hr, hx]; rfl) h
  · cases a with
    | negSucc a => exact flat h
    | ofNat a => exact fast a k2 (by rw [← opdS_ok hr, hx]; rfl) h
  · exact flat h
noncomputable def cvFlat (I : EnvI E) (n : Nat) (P : Program) (o : Oper) : BodyK E := ⟨fun _ k t F => flatK I n P o (fun v => k v F) t⟩
theorem cvFlat_ok {o : Oper} {src dst : TypeId} {x : Operand} (ho : o.op = .convert src dst x) (hc : ∀ H y, convertA P H src dst y = none) : BodyFlat I n P o (cvFlat I n P o) := fun call ev en F k hr h => by
  obtain ⟨v, h1, h2⟩ := flatK_ok hr (show flatK I n P o (fun v => k v F) ev = true from h)
  refine ⟨v, fun ca H _ => ?_, h2⟩
  unfold evOp
  simp only [ho, hc, h1, Option.map_some]
noncomputable def convS2 (I : EnvI E) (n : Nat) (P : Program) (o : Oper) (src dst : TypeId) (x : Operand) : BodyK E :=
  match P.underlying src with
  | some .string => match P.underlying dst with
    | some (.slice e) => match P.underlying e with
      | some (.int .u8) => Bool.rec (motive := fun _ => BodyK E) failB (cvSB I n e x) (Nat.beq (szT P e) 1)
      | some (.int .i32) => Bool.rec (motive := fun _ => BodyK E) failB (cvSR I n e x) (Nat.beq (szT P e) 1)
      | _ => failB
    | some .string => cvFlat I n P o
    | _ => failB
  | some (.slice e) => match P.underlying dst with
    | some .string => match P.underlying e with
      | some (.int .u8) => cvBS I n x
      | some (.int .i32) => cvRS I n x
      | _ => failB
    | some (.slice _) => match P.underlying e with
      | some (.int .u8) => Bool.rec (motive := fun _ => BodyK E) failB (cvBB I n x) (Nat.beq src dst)
      | _ => failB
    | _ => failB
  | some (.int ks) => match P.underlying dst with
    | some (.int kd) => cvII I n P o kd x
    | some .string => cvFlat I n P o
    | _ => failB
  | _ => failB
theorem convS2_ok {o : Oper} {src dst : TypeId} {x : Operand} (ho : o.op = .convert src dst x) : BodyOk I n P o (convS2 I n P o src dst x) := by
  have fail : BodyOk I n P o failB := fun call ca ev en F H k hc hr hH h => by cases h
  unfold convS2
  split
  · rename_i hs
    split
    · rename_i e hd
      split
      · rename_i he
        cases hz : Nat.beq (szT P e) 1 with
        | false => exact fail
        | true => exact cvSB_ok ho hs hd he (Nat.eq_of_beq_eq_true hz)
      · rename_i he
        cases hz : Nat.beq (szT P e) 1 with
        | false => exact fail
        | true => exact cvSR_ok ho hs hd he (Nat.eq_of_beq_eq_true hz)
      · exact fail
    · rename_i hd
      exact (cvFlat_ok ho fun H y => by unfold convertA; rw [hs, hd]).ok
    · exact fail
  · rename_i e hs
    split
    · rename_i hd
      split
      · rename_i he; exact cvBS_ok ho hs hd he
      · rename_i he; exact cvRS_ok ho hs hd he
      · exact fail
    · rename_i hd
      split
      · rename_i he
        cases hz : Nat.beq src dst with
        | false => exact fail
        | true =>
          have hz : src = dst := Nat.eq_of_beq_eq_true hz
          subst hz
          exact cvBB_ok ho hs he
      · exact fail
    · exact fail
  · rename_i ks hs
    split
    · rename_i kd hd; exact (cvII_ok ho hs hd).ok
    · rename_i hd; exact (cvFlat_ok ho fun H y => by unfold convertA; rw [hs, hd]).ok
    · exact fail
  · exact fail
end
end Go.Proofs.YtenolmhnmcjndaaGreatDoor.Ev
namespace Go.Proofs.YtenolmhnmcjndaaGreatDoor.Ev
set_option linter.unusedVariables false
set_option linter.unusedSimpArgs false
open Go
section
variable {E : Type} {I : EnvI E} {n : Nat} {P : Program} {F : FH} {H : AH}

/-! ### Lists of operands -/
structure ArgK (E : Type) where
  run : E → List FV
noncomputable def argsS (I : EnvI E) (n : Nat) : List Operand → ArgK E
  | [] => ⟨fun _ => []⟩
  | x :: r => GetK.rec (motive := fun _ => ArgK E) (fun g => ArgK.rec (motive := fun _ => ArgK E) (fun rr => ⟨fun t => g t :: rr t⟩) (argsS I n r)) (opdS I n x)
theorem argsS_ok {e : E} {en : List Value} (hr : REv I n e en) : ∀ l : List Operand, FV.vals ((argsS I n l).run e) = l.map (rho en)
  | [] => rfl
  | x :: r => by
    show FV.vals ((opdS I n x).run e :: (argsS I n r).run e) = _
    rw [FV.vals, argsS_ok hr r, opdS_ok hr]; rfl

/-! ### Functions -/
noncomputable def capF (v : FV) : Bool := FV.rec (motive_1 := fun _ => Bool) (motive_2 := fun _ => Bool) (fun _ => true) (fun _ _ => true) (fun _ => true) (fun _ _ => true) (fun _ _ => true) (fun _ _ _ _ => true) (fun _ => true) (fun _ _ => false) (fun _ _ => false) (fun _ _ _ => false) (fun _ _ _ => false) (fun v => capB v) false (fun _ _ _ _ => false) v
theorem capF_ok {v : FV} (h : capF v = true) : capB v.val = true := by
  cases v with
  | oo v => exact h
  | aa => cases h
  | tt => cases h
  | ff => cases h
  | cc => cases h
  | _ => rfl
noncomputable def capAll (k : Bool) (l : List FV) : Bool := List.rec (motive := fun _ => Bool) k (fun v _ ih => ifK ih (capF v)) l
theorem capAll_ok {k : Bool} : ∀ {l : List FV}, capAll k l = true → (FV.vals l).all capB = true ∧ k = true
  | [], h => ⟨rfl, h⟩
  | v :: r, h => by
    obtain ⟨h1, h2⟩ := ifK_ok (show ifK (capAll k r) (capF v) = true from h)
    obtain ⟨h3, h4⟩ := capAll_ok h2
    exact ⟨by rw [FV.vals, List.all_cons, capF_ok h1, h3]; rfl, h4⟩
noncomputable def mkfK (k : FV → FH → Bool) (F : FH) (f : Nat) (l : List FV) : Bool := capAll (k (.ff f l) F) l
noncomputable def makeFnS (I : EnvI E) (n : Nat) (f : FuncId) (cap : Array Operand) : BodyK E := ArgK.rec (motive := fun _ => BodyK E) (fun a => ⟨fun _ k t F => mkfK k F f (a t)⟩) (argsS I n cap.toList)
theorem makeFnS_ok {o : Oper} {f : FuncId} {first cap : Array Operand} (ho : o.op = .makeFunc (.func f) first cap) (hf : first.isEmpty = true) : BodyFlat I n P o (makeFnS I n f cap) := fun call ev en F k hr h => by
  have h : capAll (k (.ff f ((argsS I n cap.toList).run ev)) F) ((argsS I n cap.toList).run ev) = true := h
  obtain ⟨h1, h2⟩ := capAll_ok h
  rw [argsS_ok hr] at h1
  refine ⟨_, fun ca H _ => ?_, h2⟩
  have h3 : cap.toList.all (fun x => capB (rho en x)) = true := by rw [List.all_map] at h1; exact h1
  unfold evOp
  simp only [ho, hf, h3, Bool.and_self, cond_true, FV.val, argsS_ok hr]
  congr 3
  apply Array.ext'
  simp

/-! ### Interfaces -/
noncomputable def heldF (v : FV) : Bool := FV.rec (motive_1 := fun _ => Bool) (motive_2 := fun _ => Bool) (fun _ => true) (fun _ _ => true) (fun _ => true) (fun _ _ => true) (fun _ _ => true) (fun _ _ _ _ => false) (fun _ => false) (fun l _ => heldB (.agg (FV.vals l).toArray)) (fun _ _ => false) (fun _ _ _ => false) (fun _ _ _ => false) (fun v => heldB v) false (fun _ _ _ _ => false) v
theorem heldF_ok {v : FV} (h : heldF v = true) : heldB v.val = true := by
  cases v with
  | oo v => exact h
  | aa l => exact h
  | tt => cases h
  | ff => cases h
  | cc => cases h
  | ll => cases h
  | mm => cases h
  | _ => rfl
noncomputable def mkiS (I : EnvI E) (n : Nat) (P : Program) (t : TypeId) (x : Operand) : BodyK E := match P.underlying t with
  | some (.interface _) => failB
  | some _ => GetK.rec (motive := fun _ => BodyK E) (fun g => ⟨fun _ k e F => ifK (k (.cc t (g e)) F) (heldF (g e))⟩) (opdS I n x)
  | none => failB
theorem mkiS_ok {o : Oper} {t : TypeId} {x : Operand} (ho : o.op = .makeInterface t x) : BodyFlat I n P o (mkiS I n P t x) := fun call ev en F k hr h => by
  unfold mkiS at h
  split at h
  · cases h
  · rename_i d hne hu
    obtain ⟨h1, h2⟩ := ifK_ok (show ifK (k (.cc t ((opdS I n x).run ev)) F) (heldF ((opdS I n x).run ev)) = true from h)
    have h1 := heldF_ok h1
    rw [opdS_ok hr] at h1
    refine ⟨_, fun ca H _ => ?_, h2⟩
    unfold evOp
    simp only [ho, hu]
    cases d with
    | interface m => exact (hne m rfl).elim
    | _ => simp only [h1, cond_true, FV.val, opdS_ok hr]
  · cases h

/-! ### Maps -/
noncomputable def mapNw (k : FV → FH → Bool) (c : Nat) (F : FH) : Bool := k (.mm c) F
noncomputable def makeMapS (P : Program) (t : TypeId) : BodyK E := match P.underlying t with
  | some (.map _ _) => ⟨fun _ k _ F => newX (mapNw k) (.mp [] 0) F⟩
  | _ => failB
theorem makeMapS_ok {o : Oper} {t : TypeId} (ho : o.op = .makeMap t none) : BodyOk I n P o (makeMapS P t) := fun call ca ev en F H k hc hr hH h => by
  unfold makeMapS at h
  split at h
  case h_2 => cases h
  rename_i hu
  obtain ⟨F', h1, h2⟩ := newX_ok (o := .mp [] 0) hH (O := .map #[] 0) rfl h
  refine ⟨.mm H.next, F', _, ?_, h1, h2⟩
  unfold evOp
  simp only [ho, hu]
  rfl
theorem sameStr (a b : ByteArray) : Instr.sameNow .string (.string a) (.string b) = some (decide (a = b)) := by
  show some (a == b) = _
  congr 1
  by_cases h : a = b
  · subst h
    rw [decide_eq_true rfl]
    show (a.data == a.data) = true
    simp
  · rw [decide_eq_false h]
    have : ¬ (a == b) = true := fun e => h (by
      obtain ⟨x⟩ := a
      obtain ⟨y⟩ := b
      have e : x = y := by simpa using (show (x == y) = true from e)
      rw [e])
    exact Bool.eq_false_iff.2 this
/-- Are two keys the same? None: they are of other kinds. -/
noncomputable def kNat (kt kf : Bool) (a b : Nat) : Bool := iteK kf kt (Nat.beq a b)
noncomputable def kInt2 (kt kf : Bool) (b : Int) (a : Nat) : Bool := Int.rec (motive := fun _ => Bool) (fun b => iteK kf kt (Nat.beq a b)) (fun _ => kf) b
noncomputable def kInt (kt kf : Bool) (kd : IntKind) (a : Int) (kd' : IntKind) (b : Int) : Bool := ifK (iteK kf kt (decide (a = b))) (decide (kd = kd'))
noncomputable def kStr (kt kf : Bool) (n x m y : Nat) : Bool := iteK kf kt (ssEqB n x m y)
noncomputable def keyK (kind : TypeDesc) (kt kf : Bool) (x y : FV) : Bool := match kind with
  | .int _ => onInt (fun a => onN (kNat kt kf a) false y) (fun kd a => onInt (fun _ => false) (kInt kt kf kd a) false y) false x
  | .string => onS (fun n s => onS (kStr kt kf n s) false y) false x
  | _ => false
theorem keyK_ok {kind : TypeDesc} {kt kf : Bool} {x y : FV} (h : keyK kind kt kf x y = true) : keyKind kind = true ∧ atomB x.val = true ∧ ((Instr.sameNow kind x.val y.val = some true ∧ kt = true) ∨ (Instr.sameNow kind x.val y.val = some false ∧ kf = true)) := by
  unfold keyK at h
  split at h
  · rcases onInt_ok h with ⟨a, hx, g⟩ | ⟨kd, a, hx, g⟩ | g
    · rcases onN_ok (show onN (kNat kt kf a) false y = true from g) with ⟨b, hy, g1⟩ | g1
      · subst hx; subst hy
        refine ⟨rfl, rfl, ?_⟩
        rcases iteK_ok g1 with ⟨h1, h2⟩ | ⟨h1, h2⟩
        · refine .inr ⟨?_, h2⟩
          have : a ≠ b := fun e => by rw [e, Nat.beq_refl] at h1; cases h1
          simp [Instr.sameNow, FV.val]
          omega
        · refine .inl ⟨?_, h2⟩
          have := Nat.eq_of_beq_eq_true h1
          simp [Instr.sameNow, FV.val, this]
      · cases g1
    · rcases onInt_ok (show onInt (fun _ => false) (kInt kt kf kd a) false y = true from g) with ⟨b, hy, g1⟩ | ⟨kd', b, hy, g1⟩ | g1
      · cases g1
      · subst hx; subst hy
        refine ⟨rfl, rfl, ?_⟩
        obtain ⟨h0, g2⟩ := ifK_ok g1
        have h0 : kd = kd' := of_decide_eq_true h0
        subst h0
        rcases iteK_ok g2 with ⟨h1, h2⟩ | ⟨h1, h2⟩
        · refine .inr ⟨?_, h2⟩
          have : a ≠ b := of_decide_eq_false h1
          simp [Instr.sameNow, FV.val, this]
        · refine .inl ⟨?_, h2⟩
          have : a = b := of_decide_eq_true h1
          simp [Instr.sameNow, FV.val, this]
      · cases g1
    · cases g
  · rcases onS_ok h with ⟨n, s, hx, g⟩ | g
    · rcases onS_ok (show onS (kStr kt kf n s) false y = true from g) with ⟨m, u, hy, g1⟩ | g1
      · subst hx; subst hy
        refine ⟨rfl, rfl, ?_⟩
        have e := ssEqB_eq n s m u
        have hb : Instr.sameNow .string (FV.ss n s).val (FV.ss m u).val = some (decide (bytesA n s = bytesA m u)) := by
          exact sameStr _ _
        rcases iteK_ok g1 with ⟨h1, h2⟩ | ⟨h1, h2⟩
        · exact .inr ⟨by rw [hb, ← e, h1], h2⟩
        · exact .inl ⟨by rw [hb, ← e, h1], h2⟩
      · cases g1
    · cases g
  · cases h
noncomputable def atB (v : FV) : Bool := FV.rec (motive_1 := fun _ => Bool) (motive_2 := fun _ => Bool) (fun _ => true) (fun _ _ => true) (fun _ => true) (fun _ _ => true) (fun _ _ => false) (fun _ _ _ _ => false) (fun _ => false) (fun _ _ => false) (fun _ _ => false) (fun _ _ _ => false) (fun _ _ _ => false) (fun _ => false) false (fun _ _ _ _ => false) v
theorem atB_ok {v : FV} (h : atB v = true) : atomB v.val = true ∧ noTuple v.val = true := by
  cases v <;> first | (cases h; done) | exact ⟨rfl, rfl⟩
/-- A key among entries. -/
noncomputable def findE (kind : TypeDesc) (x : FV) (kf : Bool) (kh : Nat → FV → Bool) (l : List FEnt) : Nat → Bool :=
  List.rec (motive := fun _ => Nat → Bool) (fun _ => kf) (fun e _ ih i => FEnt.rec (motive := fun _ => Bool) (fun ky v _ => keyK kind (kh i v) (ih (Nat.succ i)) x ky) e) l
theorem findE_ok {kind : TypeDesc} {x : FV} {kf : Bool} {kh : Nat → FV → Bool} : ∀ {l : List FEnt} {i : Nat}, findE kind x kf kh l i = true → (Instr.findNow kind x.val (l.map FEnt.ent) i = some none ∧ kf = true) ∨ ∃ j v, i ≤ j ∧ Instr.findNow kind x.val (l.map FEnt.ent) i = some (some (j, FV.val v)) ∧ kh j v = true
  | [], i, h => .inl ⟨rfl, h⟩
  | ⟨ky, v, bn⟩ :: r, i, h => by
    have h : keyK kind (kh i v) (findE kind x kf kh r (i + 1)) x ky = true := h
    obtain ⟨_, _, h | h⟩ := keyK_ok h
    · refine .inr ⟨i, v, Nat.le_refl _, ?_, h.2⟩
      rw [List.map_cons, Instr.findNow]
      simp only [FEnt.ent, h.1]
    · have e : Instr.findNow kind x.val ((⟨ky, v, bn⟩ :: r : List FEnt).map FEnt.ent) i = Instr.findNow kind x.val (r.map FEnt.ent) (i + 1) := by
        rw [List.map_cons, Instr.findNow]
        simp only [FEnt.ent, h.1]
      rw [e]
      rcases findE_ok h.2 with h2 | ⟨j, w, h1, h2, h3⟩
      · exact .inl h2
      · exact .inr ⟨j, w, by omega, h2, h3⟩
noncomputable def mpO (f : List FEnt → Nat → Bool) (o : FObj) : Bool := FObj.rec (motive := fun _ => Bool) (fun _ _ _ _ _ => false) (fun _ _ _ _ _ => false) (fun _ _ _ => false) f o
noncomputable def lkNo (f : List FEnt → Bool) (v : Value) : Bool := match v with
  | .map none => f []
  | _ => false
noncomputable def lkE (kind : TypeDesc) (kh : Nat → FV → Bool) (kf : Bool) (y : FV) (es : List FEnt) : Bool := ifK (findE kind y kf kh es 0) (atB y)
noncomputable def lk1 (kind : TypeDesc) (F : FH) (kh : Nat → FV → Bool) (kf : Bool) (x y : FV) : Bool := onM (fun c => objK (mpO fun es _ => lkE kind kh kf y es) F c) (lkNo (lkE kind kh kf y)) false x
noncomputable def lookS (I : EnvI E) (n : Nat) (P : Program) (t : TypeId) (x y : Operand) (ok : Bool) : BodyK E := match P.underlying t with
  | some (.map kt et) => match P.underlying kt, zeroT P et with
    | some kd, some z => Bool.rec (motive := fun _ => BodyK E) failB (convR failB (fun zf => GetK.rec (motive := fun _ => BodyK E) (fun gx => GetK.rec (motive := fun _ => BodyK E) (fun gy => Bool.rec (motive := fun _ => BodyK E)
        ⟨fun _ k e F => lk1 kd F (fun _ v => k v F) (k zf F) (gx e) (gy e)⟩ ⟨fun _ k e F => lk1 kd F (fun _ v => k (.tt [v, .bb true]) F) (k (.tt [zf, .bb false]) F) (gx e) (gy e)⟩ ok) (opdS I n y)) (opdS I n x)) z) (keyKind kd)
    | _, _ => failB
  | _ => failB
theorem lk1_ok {kind : TypeDesc} {kh : Nat → FV → Bool} {kf : Bool} {x y : FV} (hH : HR F H) (h : lk1 kind F kh kf x y = true) :
    atomB y.val = true ∧ ∃ es, mapRow H x.val = some es ∧ ((Instr.findNow kind y.val es 0 = some none ∧ kf = true) ∨ ∃ j v, Instr.findNow kind y.val es 0 = some (some (j, FV.val v)) ∧ kh j v = true) := by
  have key : ∀ es, lkE kind kh kf y es = true → atomB y.val = true ∧ ((Instr.findNow kind y.val (es.map FEnt.ent) 0 = some none ∧ kf = true) ∨ ∃ j v, Instr.findNow kind y.val (es.map FEnt.ent) 0 = some (some (j, FV.val v)) ∧ kh j v = true) := fun es h => by
    obtain ⟨h1, h2⟩ := ifK_ok h
    refine ⟨(atB_ok h1).1, ?_⟩
    rcases findE_ok h2 with h3 | ⟨j, v, _, h3, h4⟩
    · exact .inl h3
    · exact .inr ⟨j, v, h3, h4⟩
  rcases onM_ok h with ⟨c, rfl, h⟩ | ⟨v, rfl, h⟩ | h
  · obtain ⟨o, b, hb, hl, hO, h2⟩ := objK_ok hH h
    cases o with
    | cl => cases h2
    | yy => cases h2
    | it => cases h2
    | mp es ck =>
      obtain ⟨h3, h4⟩ := key es h2
      refine ⟨h3, es.map FEnt.ent, ?_, h4⟩
      have hO : b.obj = .map (es.map FEnt.ent).toArray ck := hO
      simp only [mapRow, FV.val, hb, hl, hO]
  · replace h : lkNo (lkE kind kh kf y) v = true := h
    unfold lkNo at h
    split at h
    case h_2 => cases h
    obtain ⟨h3, h4⟩ := key [] h
    exact ⟨h3, [], rfl, h4⟩
  · cases h
theorem lookS_ok {o : Oper} {t : TypeId} {x y : Operand} {ok : Bool} (ho : o.op = .lookup t x y ok) : BodyOk I n P o (lookS I n P t x y ok) := fun call ca ev en F H k hc hr hH h => by
  unfold lookS at h
  split at h
  case h_2 => cases h
  rename_i kt et hu
  split at h
  case h_2 => cases h
  rename_i kd z hk hz
  cases hkd : keyKind kd with
  | false => rw [hkd] at h; cases h
  | true =>
    rw [hkd] at h
    have h : (convR failB (fun zf => GetK.rec (motive := fun _ => BodyK E) (fun gx => GetK.rec (motive := fun _ => BodyK E) (fun gy => Bool.rec (motive := fun _ => BodyK E)
        ⟨fun _ k e F => lk1 kd F (fun _ v => k v F) (k zf F) (gx e) (gy e)⟩ ⟨fun _ k e F => lk1 kd F (fun _ v => k (.tt [v, .bb true]) F) (k (.tt [zf, .bb false]) F) (gx e) (gy e)⟩ ok) (opdS I n y)) (opdS I n x)) z : BodyK E).run call k ev F = true := h
    rcases convR_ok failB (fun zf => GetK.rec (motive := fun _ => BodyK E) (fun gx => GetK.rec (motive := fun _ => BodyK E) (fun gy => Bool.rec (motive := fun _ => BodyK E)
        ⟨fun _ k e F => lk1 kd F (fun _ v => k v F) (k zf F) (gx e) (gy e)⟩ ⟨fun _ k e F => lk1 kd F (fun _ v => k (.tt [v, .bb true]) F) (k (.tt [zf, .bb false]) F) (gx e) (gy e)⟩ ok) (opdS I n y)) (opdS I n x)) z with h2 | ⟨zf, h1, h2⟩
    · rw [h2] at h; cases h
    · rw [h2] at h
      cases ok with
      | false =>
        obtain ⟨h3, es, h4, h5⟩ := lk1_ok hH (show lk1 kd F (fun _ v => k v F) (k zf F) ((opdS I n x).run ev) ((opdS I n y).run ev) = true from h)
        rw [opdS_ok hr] at h3 h4 h5
        rcases h5 with ⟨h5, h6⟩ | ⟨j, v, h5, h6⟩
        · refine ⟨zf, F, H, ?_, hH, h6⟩
          unfold evOp
          simp only [ho, lookupA, hu, hk, hz, h4, hkd, h3, Bool.and_self, cond_true, h5, cond_false, Option.map_some, h1]
        · refine ⟨v, F, H, ?_, hH, h6⟩
          unfold evOp
          simp only [ho, lookupA, hu, hk, hz, h4, hkd, h3, Bool.and_self, cond_true, h5, cond_false, Option.map_some]
      | true =>
        obtain ⟨h3, es, h4, h5⟩ := lk1_ok hH (show lk1 kd F (fun _ v => k (.tt [v, .bb true]) F) (k (.tt [zf, .bb false]) F) ((opdS I n x).run ev) ((opdS I n y).run ev) = true from h)
        rw [opdS_ok hr] at h3 h4 h5
        rcases h5 with ⟨h5, h6⟩ | ⟨j, v, h5, h6⟩
        · refine ⟨_, F, H, ?_, hH, h6⟩
          unfold evOp
          simp only [ho, lookupA, hu, hk, hz, h4, hkd, h3, Bool.and_self, cond_true, h5, Option.map_some, FV.val, FV.vals, h1]
        · refine ⟨_, F, H, ?_, hH, h6⟩
          unfold evOp
          simp only [ho, lookupA, hu, hk, hz, h4, hkd, h3, Bool.and_self, cond_true, h5, Option.map_some, FV.val, FV.vals]
/-- An entry, or one more, written. -/
noncomputable def snocE (l : List FEnt) (e : FEnt) (k : List FEnt → Bool) : Bool := List.rec (motive := fun _ => (List FEnt → Bool) → Bool) (fun k => k [e]) (fun x _ ih k => ih fun r => k (x :: r)) l k
theorem snocE_eq (e : FEnt) : ∀ (l : List FEnt) (k : List FEnt → Bool), snocE l e k = k (l ++ [e])
  | [], k => rfl
  | x :: r, k => snocE_eq e r (fun r => k (x :: r))
noncomputable def setE (y v : FV) (l : List FEnt) : (List FEnt → Bool) → Nat → Bool := List.rec (motive := fun _ => (List FEnt → Bool) → Nat → Bool) (fun _ _ => false) (fun x r ih k i => Nat.rec (motive := fun _ => Bool) (FEnt.rec (motive := fun _ => Bool) (fun _ _ b => k (⟨y, v, b⟩ :: r)) x) (fun j _ => ih (fun r => k (x :: r)) j) i) l
theorem setE_ok {y v : FV} : ∀ {l : List FEnt} {k : List FEnt → Bool} {i : Nat}, setE y v l k i = true → ∃ l', l'.map FEnt.ent = (l.map FEnt.ent).modify i (fun e => { e with key := y.val, val := v.val }) ∧ k l' = true
  | [], k, i, h => by cases h
  | ⟨ky, w, b⟩ :: r, k, 0, h => ⟨⟨y, v, b⟩ :: r, by simp [FEnt.ent], h⟩
  | x :: r, k, i + 1, h => by
    obtain ⟨l', h1, h2⟩ := setE_ok (l := r) (i := i) h
    exact ⟨x :: l', by simp [h1], h2⟩
noncomputable def upE (kind : TypeDesc) (y v : FV) (co : FObj → Bool) (es : List FEnt) (ck : Nat) : Bool :=
  findE kind y (snocE es ⟨y, v, ck⟩ fun l => natK (fun c => co (.mp l c)) (Nat.succ ck)) (fun i _ => setE y v es (fun l => co (.mp l ck)) i) es 0
noncomputable def noTF (v : FV) : Bool := FV.rec (motive_1 := fun _ => Bool) (motive_2 := fun _ => Bool) (fun _ => true) (fun _ _ => true) (fun _ => true) (fun _ _ => true) (fun _ _ => true) (fun _ _ _ _ => true) (fun _ => true) (fun _ _ => true) (fun _ _ => false) (fun _ _ _ => true) (fun _ _ _ => true) (fun v => noTuple v) false (fun _ _ _ _ => false) v
theorem noTF_ok {v : FV} (h : noTF v = true) : noTuple v.val = true := by
  cases v with
  | oo v => exact h
  | tt => cases h
  | _ => rfl
noncomputable def up1 (kind : TypeDesc) (k : FV → FH → Bool) (F : FH) (y v : FV) (c : Nat) : Bool := ifK (ifK (wrK (fun co o => mpO (upE kind y v co) o) (k undefF) F c) (atB y)) (noTF v)
noncomputable def updS (I : EnvI E) (n : Nat) (P : Program) (t : TypeId) (x y w : Operand) : BodyK E := match P.underlying t with
  | some (.map kt _) => match P.underlying kt with
    | some kd => Bool.rec (motive := fun _ => BodyK E) failB (GetK.rec (motive := fun _ => BodyK E) (fun gx => GetK.rec (motive := fun _ => BodyK E) (fun gy => GetK.rec (motive := fun _ => BodyK E) (fun gw => ⟨fun _ k e F => onM (up1 kd k F (gy e) (gw e)) (fun _ => false) false (gx e)⟩) (opdS I n w)) (opdS I n y)) (opdS I n x)) (keyKind kd)
    | none => failB
  | _ => failB
theorem updS_ok {o : Oper} {t : TypeId} {x y w : Operand} (ho : o.op = .mapUpdate t x y w) : BodyOk I n P o (updS I n P t x y w) := fun call ca ev en F H k hc hr hH h => by
  unfold updS at h
  split at h
  case h_2 => cases h
  rename_i kt et hu
  split at h
  case h_2 => cases h
  rename_i kd hk
  cases hkd : keyKind kd with
  | false => rw [hkd] at h; cases h
  | true =>
    rw [hkd] at h
    rcases onM_ok (show onM (up1 kd k F ((opdS I n y).run ev) ((opdS I n w).run ev)) (fun _ => false) false ((opdS I n x).run ev) = true from h) with ⟨c, hx, h⟩ | ⟨_, _, h⟩ | h
    · have hx : rho en x = .map (some c) := by rw [← opdS_ok hr, hx]; rfl
      obtain ⟨h1, h2⟩ := ifK_ok h
      obtain ⟨h3, h4⟩ := ifK_ok h2
      have h1 := noTF_ok h1
      have h3 := (atB_ok h3).1
      obtain ⟨b, o', hb, hl, ht, hO, co, h5, h6⟩ := wrK_ok hH h4
      cases o' with
      | cl => cases h5
      | yy => cases h5
      | it => cases h5
      | mp es ck =>
        have hO : b.obj = .map (es.map FEnt.ent).toArray ck := hO
        have h5 : findE kd ((opdS I n y).run ev) (snocE es ⟨(opdS I n y).run ev, (opdS I n w).run ev, ck⟩ fun l => natK (fun c => co (.mp l c)) (Nat.succ ck)) (fun i _ => setE ((opdS I n y).run ev) ((opdS I n w).run ev) es (fun l => co (.mp l ck)) i) es 0 = true := h5
        have hcond : (H.live c b && H.tip c b && keyKind kd && atomB (rho en y) && noTuple (rho en w)) = true := by
          rw [opdS_ok hr] at h1 h3
          rw [hl, ht, hkd, h3, h1]; rfl
        rcases findE_ok h5 with ⟨h7, h8⟩ | ⟨j, v, _, h7, h8⟩
        · rw [snocE_eq, natK_eq] at h8
          rw [opdS_ok hr] at h7
          obtain ⟨F', h9, h10⟩ := h6 _ h8 (.map ((es.map FEnt.ent).toArray.push { key := rho en y, val := rho en w, born := ck }) (ck + 1)) (by
            show Obj.map _ _ = Obj.map _ _
            congr 1
            apply Array.ext'
            simp [FEnt.ent, opdS_ok hr]) (by rw [hO]; trivial)
          refine ⟨undefF, F', _, ?_, h9, h10⟩
          unfold evOp
          simp only [ho, mapUpdateA, hu, hx, hk, hb, hcond, hO, h7, Option.map_some]
          rfl
        · obtain ⟨l', h9, h10⟩ := setE_ok h8
          rw [opdS_ok hr] at h7 h9
          rw [opdS_ok hr] at h9
          obtain ⟨F', h11, h12⟩ := h6 _ h10 (.map ((es.map FEnt.ent).toArray.modify j fun e => { e with key := rho en y, val := rho en w }) ck) (by
            show Obj.map _ _ = Obj.map _ _
            congr 1
            apply Array.ext'
            simp [h9]) (by rw [hO]; trivial)
          refine ⟨undefF, F', _, ?_, h11, h12⟩
          unfold evOp
          simp only [ho, mapUpdateA, hu, hx, hk, hb, hcond, hO, h7, Option.map_some]
          rfl
    · cases h
    · cases h
end
end Go.Proofs.YtenolmhnmcjndaaGreatDoor.Ev
namespace Go.Proofs.YtenolmhnmcjndaaGreatDoor.Ev
set_option linter.unusedVariables false
set_option linter.unusedSimpArgs false
open Go
section
variable {E : Type} {I : EnvI E} {n : Nat} {P : Program} {F : FH} {H : AH}

/-! ### Remainders and quotients -/
noncomputable def rm2 (md : Bool) (k : FV → Bool) (z : Bool) (a b : Nat) : Bool := iteK z (iteK z (natK (fun r => k (.nn r)) (Bool.rec (motive := fun _ => Nat) (Nat.div a b) (Nat.mod a b) md)) (Nat.ble a 9223372036854775807)) (Nat.ble 1 b)
noncomputable def rm1 (md : Bool) (k : FV → Bool) (z : Bool) (y : FV) (a : Nat) : Bool := onN (rm2 md k z a) z y
noncomputable def remS (I : EnvI E) (n : Nat) (P : Program) (o : Oper) (md : Bool) (x y : Operand) : BodyK E :=
  GetK.rec (motive := fun _ => BodyK E) (fun gx => GetK.rec (motive := fun _ => BodyK E) (fun gy => ⟨fun _ k t F => onN (rm1 md (fun v => k v F) (flatK I n P o (fun v => k v F) t) (gy t)) (flatK I n P o (fun v => k v F) t) (gx t)⟩) (opdS I n y)) (opdS I n x)
theorem remS_ok {o : Oper} {md : Bool} {t t' : TypeId} {x y : Operand} (ho : o.op = .binOp (if md then .rem else .quo) t x y t') : BodyFlat I n P o (remS I n P o md x y) := fun call ev en F k hr h => by
  have h : onN (rm1 md (fun v => k v F) (flatK I n P o (fun v => k v F) ev) ((opdS I n y).run ev)) (flatK I n P o (fun v => k v F) ev) ((opdS I n x).run ev) = true := h
  have flat : flatK I n P o (fun v => k v F) ev = true → ∃ v : FV, (∀ ca H, HR F H → evOp P ca o (rho en) H = some (v.val, H)) ∧ k v F = true := fun hf => by
    obtain ⟨v, h1, h2⟩ := flatK_ok hr hf
    refine ⟨v, fun ca H _ => ?_, h2⟩
    unfold evOp
    simp only [ho]
    cases md
    · simp only [Bool.false_eq_true, if_false]; rw [h1]; rfl
    · simp only [if_true]; rw [h1]; rfl
  rcases onN_ok h with ⟨a, hx, h⟩ | h
  · rcases onN_ok (show onN _ _ ((opdS I n y).run ev) = true from h) with ⟨b, hy, h⟩ | h
    · rcases iteK_ok h with ⟨_, h⟩ | ⟨h1, h⟩
      · exact flat h
      · rcases iteK_ok h with ⟨_, h⟩ | ⟨h2, h3⟩
        · exact flat h
        · rw [natK_eq] at h3
          have h1 : 0 < b := Nat.le_of_ble_eq_true h1
          have h2 : a ≤ 9223372036854775807 := Nat.le_of_ble_eq_true h2
          have hx : rho en x = .int .i64 (a : Int) := by rw [← opdS_ok hr, hx]; rfl
          have hy : rho en y = .int .i64 (b : Int) := by rw [← opdS_ok hr, hy]; rfl
          have hb : ¬ (b : Int) = 0 := by omega
          refine ⟨_, fun ca H _ => ?_, h3⟩
          cases md with
          | true =>
            have ho : o.op = .binOp .rem t x y t' := by simpa using ho
            have hm : (a : Int).tmod b = ((a % b : Nat) : Int) := by rw [Int.tmod_eq_emod_of_nonneg (by omega)]; simp
            have hf : flatOp P o (rho en) = some (.int .i64 ((a % b : Nat) : Int)) := by
              refine flat_op (by rw [ho]; simp [Op.operands, hx, hy, flatB, flat2, flat1, atomB]) ?_ rfl
              unfold execOp
              rw [ho]
              simp only [hx, hy, eqGuard, Go.binOp, Op.intDiv]
              rw [if_neg hb, hm]
              rfl
            unfold evOp
            simp only [ho, hx, hy, eqA_int, hf, Option.map_some]
            rfl
          | false =>
            have ho : o.op = .binOp .quo t x y t' := by simpa using ho
            have hm : (a : Int).tdiv b = ((a / b : Nat) : Int) := by rw [Int.tdiv_eq_ediv_of_nonneg (by omega)]; simp
            have hle : a / b ≤ a := Nat.div_le_self _ _
            have hw : IntKind.i64.wrap ((a / b : Nat) : Int) = ((a / b : Nat) : Int) := (fun q hq => wrap_id (by omega) : ∀ q : Nat, q ≤ a → IntKind.i64.wrap (q : Int) = q) _ hle
            have hf : flatOp P o (rho en) = some (.int .i64 ((a / b : Nat) : Int)) := by
              refine flat_op (by rw [ho]; simp [Op.operands, hx, hy, flatB, flat2, flat1, atomB]) ?_ rfl
              unfold execOp
              rw [ho]
              simp only [hx, hy, eqGuard, Go.binOp, Op.intDiv]
              rw [if_neg hb, hm, hw]
              rfl
            unfold evOp
            simp only [ho, hx, hy, eqA_int, hf, Option.map_some]
            rfl
    · exact flat h
  · exact flat h

/-! ### len -/
noncomputable def lnNo (k : FV → Bool) (v : Value) : Bool := match v with
  | .slice none m _ => natK (fun m => k (.nn m)) m
  | _ => false
noncomputable def lnM (k : FV → Bool) (o : FObj) : Bool := mpO (fun es _ => natK (fun m => k (.nn m)) (List.rec (motive := fun _ => Nat) 0 (fun _ _ ih => Nat.add ih 1) es)) o
noncomputable def lenS (I : EnvI E) (n : Nat) (P : Program) (o : Oper) (c : Call) : BodyK E := match c.args.toList, c.argTypes.toList with
  | [x], [t] => match P.underlying t with
    | some .string => GetK.rec (motive := fun _ => BodyK E) (fun gx => ⟨fun _ k t F => onS (fun m _ => k (.nn m) F) false (gx t)⟩) (opdS I n x)
    | some (.slice _) => GetK.rec (motive := fun _ => BodyK E) (fun gx => ⟨fun _ k t F => onL (fun _ _ m _ => k (.nn m) F) (lnNo fun v => k v F) false (gx t)⟩) (opdS I n x)
    | some (.map _ _) => GetK.rec (motive := fun _ => BodyK E) (fun gx => ⟨fun _ k t F => onM (fun c => objK (lnM fun v => k v F) F c) (lkNo fun _ => k (.nn 0) F) false (gx t)⟩) (opdS I n x)
    | _ => failB
  | _, _ => failB
theorem lenE_eq : ∀ l : List FEnt, (List.rec (motive := fun _ => Nat) 0 (fun _ _ ih => Nat.add ih 1) l : Nat) = l.length
  | [] => rfl
  | x :: r => by show Nat.add (List.rec (motive := fun _ => Nat) 0 (fun _ _ ih => Nat.add ih 1) r : Nat) 1 = _; rw [lenE_eq r]; rfl
theorem lenS_ok {o : Oper} {c : Call} (ho : o.op = .call c) (hc : c.callee = .builtin .len) : BodyOk I n P o (lenS I n P o c) := fun call ca ev en F H k hcl hr hH h => by
  unfold lenS at h
  split at h
  case h_2 => cases h
  rename_i x t hxs hts
  have hty : (c.argTypes[0]?).bind P.underlying = P.underlying t := by
    have : c.argTypes = #[t] := by rw [← Array.toArray_toList (xs := c.argTypes), hts]
    rw [this]; rfl
  split at h
  · rename_i hu
    rcases onS_ok (show onS (fun m _ => k (.nn m) F) false ((opdS I n x).run ev) = true from h) with ⟨m, s, hx, h⟩ | h
    · have hx : rho en x = .string (bytesA m s) := by rw [← opdS_ok hr, hx]; rfl
      refine ⟨.nn m, F, H, ev_len ho ?_, hH, h⟩
      simp only [fastLen, hc, hxs, hts, hu, hx, bytesA_size]
      rfl
    · cases h
  · rename_i el hu
    rcases onL_ok (show onL (fun _ _ m _ => k (.nn m) F) (lnNo fun v => k v F) false ((opdS I n x).run ev) = true from h) with ⟨b, off, m, cap, hx, h⟩ | ⟨v, hx, h⟩ | h
    · have hx : rho en x = .slice (some ⟨b, off, none⟩) m cap := by rw [← opdS_ok hr, hx]; rfl
      refine ⟨.nn m, F, H, ?_, hH, h⟩
      unfold evOp
      simp only [ho, callA, hc, hxs, List.map_cons, List.map_nil, hx, hty, hu]
      rfl
    · replace h : lnNo (fun v => k v F) v = true := h
      unfold lnNo at h
      split at h
      case h_2 => cases h
      rename_i m cap
      rw [natK_eq] at h
      have hx : rho en x = .slice none m cap := by rw [← opdS_ok hr, hx]; rfl
      refine ⟨.nn m, F, H, ?_, hH, h⟩
      unfold evOp
      simp only [ho, callA, hc, hxs, List.map_cons, List.map_nil, hx, hty, hu]
      rfl
    · cases h
  · rename_i kt et hu
    rcases onM_ok (show onM (fun c => objK (lnM fun v => k v F) F c) (lkNo fun _ => k (.nn 0) F) false ((opdS I n x).run ev) = true from h) with ⟨b, hx, h⟩ | ⟨v, hx, h⟩ | h
    · have hx : rho en x = .map (some b) := by rw [← opdS_ok hr, hx]; rfl
      obtain ⟨ob, bl, hb, hl, hO, h2⟩ := objK_ok hH h
      cases ob with
      | cl => cases h2
      | yy => cases h2
      | it => cases h2
      | mp es ck =>
        have h2 : natK (fun m => k (.nn m) F) (List.rec (motive := fun _ => Nat) 0 (fun _ _ ih => Nat.add ih 1) es) = true := h2
        rw [natK_eq, lenE_eq] at h2
        refine ⟨.nn es.length, F, H, ?_, hH, h2⟩
        have hO : bl.obj = .map (es.map FEnt.ent).toArray ck := hO
        unfold evOp
        simp only [ho, callA, hc, hxs, List.map_cons, List.map_nil, hx, hty, hu, mapRow, hb, hl, hO, Option.map_some, List.length_map]
        rfl
    · replace h : lkNo (fun _ => k (.nn 0) F) v = true := h
      unfold lkNo at h
      split at h
      case h_2 => cases h
      have hx : rho en x = .map none := by rw [← opdS_ok hr, hx]; rfl
      refine ⟨.nn 0, F, H, ?_, hH, h⟩
      unfold evOp
      simp only [ho, callA, hc, hxs, List.map_cons, List.map_nil, hx, hty, hu, mapRow]
      rfl
    · cases h
  · cases h

/-! ### append -/
noncomputable def appS (I : EnvI E) (n : Nat) (P : Program) (c : Call) : BodyK E := match c.args.toList, c.argTypes[0]? with
  | [s, x], some sT => match elemT P sT, (c.argTypes[1]?).bind P.underlying with
    | some e, some xd => match notInt xd, zeroT P e with
      | true, some z => Bool.rec (motive := fun _ => BodyK E) failB (natR (fun by_ => natR (fun sz => GetK.rec (motive := fun _ => BodyK E) (fun gs => GetK.rec (motive := fun _ => BodyK E) (fun gx => Bool.rec (motive := fun _ => BodyK E)
            ⟨fun _ k t F => tlG (app2 k F sz by_ e (gs t)) F sz (gx t)⟩ ⟨fun _ k t F => tlY (app2 k F sz by_ e (gs t)) F (gx t)⟩ (isU8 P e && Nat.beq sz 1)) (opdS I n x)) (opdS I n s)) (szT P e)) (bytesT P e))
          (Nat.ble 1 (bytesT P e) && (Nat.ble 1 (szT P e) && Nat.beq z.cells.size (szT P e)))
      | _, _ => failB
    | _, _ => failB
  | _, _ => failB
theorem tailA_zero {e : TypeId} {x : Value} {l : List Value} (h : tailA P H e x = some (0, l)) : l = [] := by
  unfold tailA at h
  split at h
  · split at h
    · rename_i m _ l' hr
      simp only [Option.some.injEq, Prod.mk.injEq] at h
      obtain ⟨rfl, rfl⟩ := h
      unfold rowA at hr
      split at hr
      · simp at hr; first | exact hr.symm | exact hr
      · split at hr
        · split at hr
          · cases hr; simp
          · cases hr
        · cases hr
    · cases h
  · rename_i s
    split at h
    · simp only [Option.some.injEq, Prod.mk.injEq] at h
      obtain ⟨h1, rfl⟩ := h
      have : s.data.toList = [] := List.eq_nil_of_length_eq_zero (by simpa using h1)
      rw [this]; rfl
    · cases h
  · cases h
theorem appS_ok {o : Oper} {c : Call} (ho : o.op = .call c) (hc : c.callee = .builtin .append) : BodyOk I n P o (appS I n P c) := fun call ca ev en F H k hcl hr hH h => by
  unfold appS at h
  split at h
  case h_2 => cases h
  rename_i s x sT hxs hsT
  split at h
  case h_2 => cases h
  rename_i e xd he hxd
  split at h
  case h_2 => cases h
  rename_i z hni hz
  cases hb : (Nat.ble 1 (bytesT P e) && (Nat.ble 1 (szT P e) && Nat.beq z.cells.size (szT P e))) with
  | false => rw [hb] at h; cases h
  | true =>
    rw [hb] at h
    simp only [Bool.and_eq_true] at hb
    have hs : 0 < bytesT P e ∧ 0 < szT P e ∧ z.cells.size = szT P e := ⟨Nat.le_of_ble_eq_true hb.1, Nat.le_of_ble_eq_true hb.2.1, Nat.eq_of_beq_eq_true hb.2.2⟩
    have h := (natR_eq _ _ ▸ h : (natR _ _ : BodyK E).run call k ev F = true)
    rw [natR_eq] at h
    have fin : ∀ m tl, tailA P H e ((opdS I n x).run ev).val = some (m, tl.vals) → app2 k F (szT P e) (bytesT P e) e ((opdS I n s).run ev) m tl = true → ∃ v F' H', evOp P ca o (rho en) H = some (FV.val v, H') ∧ HR F' H' ∧ k v F' = true := fun m tl h1 h2 => by
      obtain ⟨v, F', H', h3, h4, h5⟩ := app2_ok hH he hxd hni h1 hz hs (fun hm => by subst hm; exact tailA_zero h1) h2
      rw [opdS_ok hr, opdS_ok hr] at h3
      refine ⟨v, F', H', ?_, h4, h5⟩
      unfold evOp
      simp only [ho, callA, hc, hxs, List.map_cons, List.map_nil, hsT]
      exact h3
    cases hu : (isU8 P e && Nat.beq (szT P e) 1) with
    | false =>
      rw [hu] at h
      obtain ⟨m, tl, h1, h2⟩ := tlG_ok hH (show tlG (app2 k F (szT P e) (bytesT P e) e ((opdS I n s).run ev)) F (szT P e) ((opdS I n x).run ev) = true from h)
      exact fin m tl h1 h2
    | true =>
      rw [hu] at h
      simp only [Bool.and_eq_true] at hu
      obtain ⟨m, tl, h1, h2⟩ := tlY_ok hH (Nat.eq_of_beq_eq_true hu.2) (show tlY (app2 k F (szT P e) (bytesT P e) e ((opdS I n s).run ev)) F ((opdS I n x).run ev) = true from h)
      exact fin m tl h1 h2

/-! ### Calls -/
noncomputable def callS (I : EnvI E) (n : Nat) (P : Program) (o : Oper) (c : Call) : BodyK E := match c.callee with
  | .value x => match x with
    | .func f => natR (fun f => ArgK.rec (motive := fun _ => BodyK E) (fun a => ⟨fun call k t F => call f (a t) k F⟩) (argsS I n c.args.toList)) f
    | x => ArgK.rec (motive := fun _ => BodyK E) (fun a => GetK.rec (motive := fun _ => BodyK E) (fun g => ⟨fun call k t F => onF (fun f cap => appL cap (fun l => call f l k F) (a t)) false (g t)⟩) (opdS I n x)) (argsS I n c.args.toList)
  | .builtin b => match b with
    | .len => lenS I n P o c
    | .append => appS I n P c
    | .copy => failB
    | _ => ⟨fun _ k t F => flatK I n P o (fun v => k v F) t⟩
  | _ => failB
theorem callS_ok {o : Oper} {c : Call} (ho : o.op = .call c) : BodyOk I n P o (callS I n P o c) := by
  have fail : BodyOk I n P o failB := fun call ca ev en F H k hc hr hH h => by cases h
  unfold callS
  split
  · rename_i x hx
    split
    · rename_i f
      rw [natR_eq]
      intro call ca ev en F H k hc hr hH h
      obtain ⟨v, F', H', h1, h2, h3⟩ := hc _ _ _ _ _ hH (show call f ((argsS I n c.args.toList).run ev) k F = true from h)
      refine ⟨v, F', H', ?_, h2, h3⟩
      unfold evOp
      simp only [ho, callA, hx, rho, Array.isEmpty_empty, cond_true]
      rw [argsS_ok hr] at h1
      simpa using h1
    · intro call ca ev en F H k hc hr hH h
      rcases onF_ok (show onF (fun f cap => appL cap (fun l => call f l k F) ((argsS I n c.args.toList).run ev)) false ((opdS I n x).run ev) = true from h) with ⟨f, cap, hxv, h⟩ | h
      · have h := appL_ok _ _ h
        obtain ⟨v, F', H', h1, h2, h3⟩ := hc _ _ _ _ _ hH h
        refine ⟨v, F', H', ?_, h2, h3⟩
        have hxr : rho en x = .func (.func f) #[] (FV.vals cap).toArray := by rw [← opdS_ok hr, hxv]; rfl
        unfold evOp
        simp only [ho, callA, hx, hxr, Array.isEmpty_empty, cond_true]
        rw [FV.vals_eq, List.map_append, ← FV.vals_eq, ← FV.vals_eq, argsS_ok hr] at h1
        exact h1
      · cases h
  · rename_i b hb
    split
    · exact lenS_ok ho hb
    · exact appS_ok ho hb
    · exact fail
    · rename_i h1 h2 h3
      intro call ca ev en F H k hc hr hH h
      obtain ⟨v, g1, g2⟩ := flatK_ok hr (show flatK I n P o (fun v => k v F) ev = true from h)
      refine ⟨v, F, H, ?_, hH, g2⟩
      unfold evOp
      simp only [ho, callA, hb]
      cases b with
      | len => exact (h1 rfl).elim
      | append => exact (h2 rfl).elim
      | copy => exact (h3 rfl).elim
      | _ => rw [g1]; rfl
  · exact fail

/-! ### One body for each operation -/
noncomputable def bodyS (I : EnvI E) (n : Nat) (P : Program) (o : Oper) : BodyK E := match o.op with
  | .move x => moveS I n x
  | .assign x => moveS I n x
  | .pick c a b => pickS I n c a b
  | .extract t ix => extrS I n t ix
  | .build t ps => buildS I n P t ps
  | .nilCheck x => nilS I n x
  | .fieldAddr s x f => fieldAS I n P s x f
  | .indexAddr t x i => indexAS I n P t x i
  | .load t a => loadS I n P t a
  | .store t a x => storeS I n P t a x
  | .alloc e => allocS P e
  | .box e x => boxS I n e x
  | .buildSlice t m ps => buildSlS I n P t m ps
  | .makeSlice t l c => makeSlS I n P t l c
  | .makeFunc fn first cap => match fn with
    | .func f => match first.isEmpty with
      | true => makeFnS I n f cap
      | false => failB
    | _ => failB
  | .makeInterface t x => mkiS I n P t x
  | .slice t x lo hi mx => match P.underlying t with
    | some (.slice e) => sliceS I n P e x lo hi mx
    | some .string => substrS I n x lo hi mx
    | _ => failB
  | .convert src dst x => convS2 I n P o src dst x
  | .binOp op t x y _ => match op with
    | .rem => remS I n P o true x y
    | .quo => remS I n P o false x y
    | op => bin2S I n P o op t x y
  | .range t x => match P.underlying t with
    | some .string => rangS I n x
    | _ => failB
  | .next x b => match b with
    | true => nextS I n x
    | false => failB
  | .call c => callS I n P o c
  | .unOp op t x => match op with
    | .not => notS I n P o x
    | _ => flatS I n P o
  | .index t x i => match P.underlying t with
    | some .string => indexS I n x i
    | _ => flatS I n P o
  | .field .. => flatS I n P o
  | .typeAssert .. => flatS I n P o
  | .makeMap t rv => match rv with
    | none => makeMapS P t
    | some _ => failB
  | .lookup t m k ok => lookS I n P t m k ok
  | .mapUpdate t m k x => updS I n P t m k x
  | _ => failB
theorem bodyS_ok (o : Oper) : BodyOk I n P o (bodyS I n P o) := by
  have fail : BodyOk I n P o failB := fun call ca ev en F H k hc hr hH h => by cases h
  unfold bodyS
  split
  · rename_i ho; exact (moveS_ok (.inl ho)).ok
  · rename_i ho; exact (moveS_ok (.inr ho)).ok
  · rename_i ho; exact (pickS_ok ho).ok
  · rename_i ho; exact (extrS_ok ho).ok
  · rename_i ho; exact (buildS_ok ho).ok
  · rename_i ho; exact (nilS_ok ho).ok
  · rename_i ho; exact (fieldAS_ok ho).ok
  · rename_i ho; exact (indexAS_ok ho).ok
  · rename_i ho; exact loadS_ok ho
  · rename_i ho; exact storeS_ok ho
  · rename_i ho; exact allocS_ok ho
  · rename_i ho; exact boxS_ok ho
  · rename_i ho; exact buildSlS_ok ho
  · rename_i ho; exact makeSlS_ok ho
  · rename_i ho
    split
    · split
      · rename_i hf; exact (makeFnS_ok ho hf).ok
      · exact fail
    · exact fail
  · rename_i ho; exact (mkiS_ok ho).ok
  · rename_i ho
    split
    · rename_i hu; exact sliceS_ok ho hu
    · rename_i hu; exact (substrS_ok ho hu).ok
    · exact fail
  · rename_i ho; exact convS2_ok ho
  · rename_i ho
    split
    · exact (remS_ok (md := true) ho).ok
    · exact (remS_ok (md := false) ho).ok
    · exact (bin2S_ok ho).ok
  · rename_i ho
    split
    · rename_i hu; exact rangS_ok ho hu
    · exact fail
  · rename_i ho
    split
    · exact nextS_ok ho
    · exact fail
  · rename_i ho; exact callS_ok ho
  · rename_i ho
    split
    · exact (notS_ok ho).ok
    · exact (flatS_ok fun ca ρ H => by unfold evOp; simp only [ho]).ok
  · rename_i ho
    split
    · rename_i hu; exact (indexS_ok ho hu).ok
    · exact (flatS_ok fun ca ρ H => by unfold evOp; simp only [ho]).ok
  · rename_i ho; exact (flatS_ok fun ca ρ H => by unfold evOp; simp only [ho]).ok
  · rename_i ho; exact (flatS_ok fun ca ρ H => by unfold evOp; simp only [ho]).ok
  · rename_i ho
    split
    · exact makeMapS_ok ho
    · exact fail
  · rename_i ho; exact lookS_ok ho
  · rename_i ho; exact updS_ok ho
  · exact fail
end
end Go.Proofs.YtenolmhnmcjndaaGreatDoor.Ev
