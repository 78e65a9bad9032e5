/-
  The machine's operations on the heap: addresses, loads, stores, new blocks.
-/
import Derived.Test.YtaadahhjdkkkaaaGreatDoorEvVmD
namespace Go.Proofs.YtaadahhjdkkkaaaGreatDoor.Ev
set_option linter.unusedVariables false
set_option linter.unusedSimpArgs false
open Go

/-! ### Rows, laid and written -/
/-- A list, laid into a tree from a place on. -/
noncomputable def setL (l : List FV) : (Q FV → Bool) → Nat → Q FV → Bool :=
  List.rec (motive := fun _ => (Q FV → Bool) → Nat → Q FV → Bool) (fun k _ t => k t) (fun x _ ih k i t => Q.setK x t (ih k (Nat.succ i)) i) l
theorem setL_ok {n : Nat} : ∀ (l : List FV) (k : Q FV → Bool) (i : Nat) (t : Q FV) (C : Array Value), C.size = n → i + l.length ≤ n → (∀ j f, t.get j = some f → C[j]? = some (FV.val f)) → setL l k i t = true →
    ∃ t' : Q FV, (∀ j f, t'.get j = some f → (writeCells C i (FV.vals l))[j]? = some (FV.val f)) ∧ k t' = true
  | [], k, i, t, C, hC, hl, h, hk => ⟨t, h, hk⟩
  | x :: r, k, i, t, C, hC, hl, h, hk => by
    have hk : Q.setK x t (setL r k (Nat.succ i)) i = true := hk
    obtain ⟨t1, h1, h2⟩ := Q.setK_ok hk
    simp only [List.length_cons] at hl
    refine setL_ok r k (i + 1) t1 (C.setIfInBounds i x.val) (by simpa using hC) (by omega) (fun j f hj => ?_) h1
    rw [h2] at hj
    rw [Array.getElem?_setIfInBounds]
    split at hj
    · rename_i e; subst e; cases hj; rw [if_pos rfl, if_pos (by omega)]
    · rename_i e; rw [if_neg (fun e2 => e e2.symm)]; exact h j f hj
theorem writeCells_all : ∀ (l : List Value) (C : Array Value) (i : Nat), i + l.length ≤ C.size → (writeCells C i l).toList = C.toList.take i ++ l ++ C.toList.drop (i + l.length)
  | [], C, i, h => by simp [writeCells]
  | v :: r, C, i, h => by
    simp only [List.length_cons] at h
    rw [writeCells, writeCells_all r _ _ (by simp; omega)]
    have e : (C.setIfInBounds i v).toList = C.toList.set i v := by simp
    rw [e, List.take_set, List.drop_set]
    have h1 : (C.toList.take (i + 1)).set i v = C.toList.take i ++ [v] := by
      rw [List.take_succ_eq_append_getElem (by simp; omega), List.set_append_right _ _ (by simp; omega)]
      simp
      rw [Nat.min_eq_left (by omega)]
      simp
    rw [h1, if_pos (by omega)]
    simp [List.append_assoc, Nat.add_assoc, Nat.add_comm 1]
/-- A new row. -/
noncomputable def layL (k : Q FV → Bool) (l : List FV) : Bool := setL l k 0 Q.emp
theorem layL_ok {k : Q FV → Bool} {l : List FV} (h : layL k l = true) : ∃ t : Q FV, (∀ j f, t.get j = some f → (FV.vals l)[j]? = some (FV.val f)) ∧ k t = true := by
  obtain ⟨t, h1, h2⟩ := setL_ok (n := l.length) l k 0 Q.emp (Array.replicate l.length undef) (by simp) (by omega) (fun j f hj => by cases hj) h
  refine ⟨t, fun j f hj => ?_, h2⟩
  have := h1 j f hj
  have e := writeCells_all (FV.vals l) (Array.replicate l.length undef) 0 (by simp [FV.vals_eq])
  rw [← Array.getElem?_toList, e] at this
  simp only [List.take_zero, List.nil_append, Nat.zero_add] at this
  rw [List.drop_eq_nil_of_le (by simp [FV.vals_eq]), List.append_nil] at this
  exact this
noncomputable def layR {R : Type} (z : R) (l : List FV) : (Q FV → R) → Nat → Q FV → R :=
  List.rec (motive := fun _ => (Q FV → R) → Nat → Q FV → R) (fun k _ t => k t) (fun x _ ih k i t => setR z x t (ih k (Nat.succ i)) i) l
theorem layR_ok {R : Type} {z : R} : ∀ (l : List FV) (k : Q FV → R) (i : Nat) (t : Q FV) (l0 : List Value), l0.length = i → (∀ j f, t.get j = some f → l0[j]? = some (FV.val f)) →
    layR z l k i t = z ∨ ∃ t' : Q FV, layR z l k i t = k t' ∧ ∀ j f, t'.get j = some f → (l0 ++ FV.vals l)[j]? = some (FV.val f)
  | [], k, i, t, l0, hl, h => .inr ⟨t, rfl, by simpa [FV.vals] using h⟩
  | x :: r, k, i, t, l0, hl, h => by
    have e0 : layR z (x :: r) k i t = setR z x t (layR z r k (i + 1)) i := rfl
    rw [e0]
    rcases setR_ok (z := z) (x := x) (t := t) (k := layR z r k (i + 1)) (n := i) with h1 | ⟨t1, h1, h2⟩
    · exact .inl h1
    · rw [h1]
      rcases layR_ok (z := z) r k (i + 1) t1 (l0 ++ [x.val]) (by simp [hl]) (fun j f hj => by
        rw [h2] at hj
        split at hj
        · rename_i e; subst e; cases hj; rw [List.getElem?_append_right (by omega)]; simp [hl]
        · have := h j f hj
          rw [List.getElem?_append_left (List.getElem?_eq_some_iff.1 this).1]
          exact this) with h3 | ⟨t', h3, h4⟩
      · exact .inl h3
      · exact .inr ⟨t', h3, by simpa [FV.vals] using h4⟩

section
variable {E : Type} {I : EnvI E} {n : Nat} {P : Program}

/-! ### Addresses -/
noncomputable def addP (k : FV → FH → Bool) (F : FH) (c o : Nat) : Bool := k (.pp c o) F
noncomputable def fieldAS (I : EnvI E) (n : Nat) (P : Program) (s : TypeId) (x : Operand) (f : Nat) : BodyK E :=
  match P.underlying s with
  | some (.struct fields) => match fields[f]? with
    | some fl => match Nat.beq (szT P fl.type) 0 with
      | true => ⟨fun _ _ _ _ => false⟩
      | false => natR (fun off => GetK.rec (motive := fun _ => BodyK E) (fun gx => ⟨fun _ k t F => onP (fun c o => natK (addP k F c) (Nat.add o off)) false (gx t)⟩) (opdS I n x)) fl.offset
    | none => ⟨fun _ _ _ _ => false⟩
  | _ => ⟨fun _ _ _ _ => false⟩
theorem addr_add (c o m : Nat) : (⟨c, o, none⟩ : Addr).add m = ⟨c, o + m, none⟩ := by unfold Addr.add; split <;> simp_all
theorem fieldAS_ok {o : Oper} {s : TypeId} {x : Operand} {f : Nat} (ho : o.op = .fieldAddr s x f) : BodyFlat I n P o (fieldAS I n P s x f) := fun call e en F k hr h => by
  unfold fieldAS at h
  split at h
  case h_2 => cases h
  rename_i fields hu
  split at h
  case h_2 => cases h
  rename_i fl hf
  split at h
  case h_1 => cases h
  rename_i hz
  rw [natR_eq] at h
  have h : onP (fun c o => natK (addP k F c) (Nat.add o fl.offset)) false ((opdS I n x).run e) = true := h
  rcases onP_ok h with ⟨c, off, hx, h⟩ | h
  · rw [natK_eq] at h
    refine ⟨_, fun ca H _ => ?_, h⟩
    have hx : rho en x = .pointer (some ⟨c, off, none⟩) := by rw [← opdS_ok hr, hx]; rfl
    unfold evOp
    simp only [ho, fieldAddrA, hu, hx, hf, hz, cond_false, Option.map_some, FV.val, addr_add]
    rfl
  · cases h
noncomputable def idxA2 (k : FV → FH → Bool) (F : FH) (sz c o n i : Nat) : Bool := ifK (natK (addP k F c) (Nat.add o (Nat.mul i sz))) (Nat.ble (Nat.succ i) n)
noncomputable def idxA1 (k : FV → FH → Bool) (F : FH) (sz : Nat) (y : FV) (c o n m : Nat) : Bool := onX (idxA2 k F sz c o n) y
noncomputable def idxP1 (k : FV → FH → Bool) (F : FH) (sz n : Nat) (y : FV) (c o : Nat) : Bool := onX (idxA2 k F sz c o n) y
noncomputable def indexAS (I : EnvI E) (n : Nat) (P : Program) (t : TypeId) (x y : Operand) : BodyK E :=
  match P.underlying t with
  | some (.slice el) => match Nat.beq (szT P el) 0 with
    | true => ⟨fun _ _ _ _ => false⟩
    | false => natR (fun sz => GetK.rec (motive := fun _ => BodyK E) (fun gx => GetK.rec (motive := fun _ => BodyK E) (fun gy => ⟨fun _ k t F => onL (idxA1 k F sz (gy t)) (fun _ => false) false (gx t)⟩) (opdS I n y)) (opdS I n x)) (szT P el)
  | some (.array m el) => match Nat.beq (szT P el) 0 with
    | true => ⟨fun _ _ _ _ => false⟩
    | false => natR (fun m => natR (fun sz => GetK.rec (motive := fun _ => BodyK E) (fun gx => GetK.rec (motive := fun _ => BodyK E) (fun gy => ⟨fun _ k t F => onP (idxP1 k F sz m (gy t)) false (gx t)⟩) (opdS I n y)) (opdS I n x)) (szT P el)) m
  | _ => ⟨fun _ _ _ _ => false⟩
theorem beq_ne {a : Nat} (h : Nat.beq a 0 = false) : a ≠ 0 := fun e => by rw [e] at h; cases h
theorem indexAS_ok {o : Oper} {t : TypeId} {x y : Operand} (ho : o.op = .indexAddr t x y) : BodyFlat I n P o (indexAS I n P t x y) := fun call e en F k hr h => by
  unfold indexAS at h
  split at h
  · rename_i el hu
    split at h
    · cases h
    rename_i hz
    have hz := beq_ne hz
    rw [natR_eq] at h
    have h : onL (idxA1 k F (szT P el) ((opdS I n y).run e)) (fun _ => false) false ((opdS I n x).run e) = true := h
    rcases onL_ok h with ⟨c, off, m, cap, hx, h⟩ | ⟨_, _, h⟩ | h
    · obtain ⟨kd, i, hy, h⟩ := onX_ok h
      · obtain ⟨h1, h2⟩ := ifK_ok h
        rw [natK_eq] at h2
        have h1 : i < m := Nat.le_of_ble_eq_true h1
        refine ⟨_, fun ca H _ => ?_, h2⟩
        have hx : rho en x = .slice (some ⟨c, off, none⟩) m cap := by rw [← opdS_ok hr, hx]; rfl
        have hy : rho en y = .int kd (Int.ofNat i) := by rw [← opdS_ok hr, hy]
        have hc : (0 : Int) ≤ Int.ofNat i ∧ Int.ofNat i < (m : Int) ∧ szT P el ≠ 0 := ⟨Int.natCast_nonneg i, by simpa using h1, hz⟩
        unfold evOp
        simp only [ho, indexAddrA, hu, hx, hy, if_pos hc, Option.map_some, FV.val, addr_add]
        rfl
    · cases h
    · cases h
  · rename_i m el hu
    split at h
    · cases h
    rename_i hz
    have hz := beq_ne hz
    rw [natR_eq, natR_eq] at h
    have h : onP (idxP1 k F (szT P el) m ((opdS I n y).run e)) false ((opdS I n x).run e) = true := h
    rcases onP_ok h with ⟨c, off, hx, h⟩ | h
    · obtain ⟨kd, i, hy, h⟩ := onX_ok h
      · obtain ⟨h1, h2⟩ := ifK_ok h
        rw [natK_eq] at h2
        have h1 : i < m := Nat.le_of_ble_eq_true h1
        refine ⟨_, fun ca H _ => ?_, h2⟩
        have hx : rho en x = .pointer (some ⟨c, off, none⟩) := by rw [← opdS_ok hr, hx]; rfl
        have hy : rho en y = .int kd (Int.ofNat i) := by rw [← opdS_ok hr, hy]
        have hc : (0 : Int) ≤ Int.ofNat i ∧ Int.ofNat i < (m : Int) ∧ szT P el ≠ 0 := ⟨Int.natCast_nonneg i, by simpa using h1, hz⟩
        unfold evOp
        simp only [ho, indexAddrA, hu, hx, hy, if_pos hc, Option.map_some, FV.val, addr_add]
        rfl
    · cases h
  · cases h
noncomputable def nilS (I : EnvI E) (n : Nat) (x : Operand) : BodyK E := GetK.rec (motive := fun _ => BodyK E) (fun gx => ⟨fun _ k t F => onP (addP k F) (onF (fun f cs => k (.ff f cs) F) false (gx t)) (gx t)⟩) (opdS I n x)
theorem nilS_ok {o : Oper} {x : Operand} (ho : o.op = .nilCheck x) : BodyFlat I n P o (nilS I n x) := fun call e en F k hr h => by
  have h : onP (addP k F) (onF (fun f cs => k (.ff f cs) F) false ((opdS I n x).run e)) ((opdS I n x).run e) = true := h
  rcases onP_ok h with ⟨c, off, hx, h⟩ | h
  · refine ⟨_, fun ca H _ => ?_, h⟩
    have hx : rho en x = .pointer (some ⟨c, off, none⟩) := by rw [← opdS_ok hr, hx]; rfl
    unfold evOp
    simp only [ho, hx]; rfl
  · rcases onF_ok h with ⟨f, cs, hx, h⟩ | h
    · refine ⟨_, fun ca H _ => ?_, h⟩
      have hx : rho en x = .func (.func f) #[] (FV.vals cs).toArray := by rw [← opdS_ok hr, hx]; rfl
      unfold evOp
      simp only [ho, hx]; rfl
    · cases h

/-! ### Loads -/
noncomputable def aggK (k : FV → FH → Bool) (F : FH) (l : List FV) : Bool := k (.aa l) F
noncomputable def aggS (I : EnvI E) (n : Nat) (P : Program) (t : TypeId) (x : Operand) : BodyK E :=
  natR (fun sz => GetK.rec (motive := fun _ => BodyK E) (fun gx => ⟨fun _ k t F => onP (fun c o => cellsK (aggK k F) F c o sz) false (gx t)⟩) (opdS I n x)) (szT P t)
noncomputable def load1S (I : EnvI E) (n : Nat) (x : Operand) : BodyK E := GetK.rec (motive := fun _ => BodyK E) (fun gx => ⟨fun _ k t F => onP (cellK (fun v => k v F) F) false (gx t)⟩) (opdS I n x)
noncomputable def loadS (I : EnvI E) (n : Nat) (P : Program) (t : TypeId) (x : Operand) : BodyK E :=
  match P.underlying t with
  | some (.struct _) => aggS I n P t x
  | some (.array _ _) => aggS I n P t x
  | some _ => load1S I n x
  | none => ⟨fun _ _ _ _ => false⟩
theorem extract_vals {C : Array Value} {off m : Nat} {l : List FV} (h : (C.toList.drop off).take m = FV.vals l) : C.extract off (off + m) = (FV.vals l).toArray := by
  apply Array.ext'
  rw [Array.toList_extract, List.extract_eq_take_drop, ← h, show off + m - off = m by omega]
theorem aggS_ok {call : CallT} {k : FV → FH → Bool} {x : Operand} {t : TypeId} {e : E} {en : List Value} {F : FH} {H : AH} (hr : REv I n e en) (hH : HR F H) (h : (aggS I n P t x).run call k e F = true) :
    ∃ c off C el fr l, rho en x = .pointer (some ⟨c, off, none⟩) ∧ H.cells c = some (C, el, fr) ∧ off + szT P t ≤ C.size ∧ C.extract off (off + szT P t) = (FV.vals l).toArray ∧ k (.aa l) F = true := by
  unfold aggS at h
  rw [natR_eq] at h
  have h : onP (fun c o => cellsK (aggK k F) F c o (szT P t)) false ((opdS I n x).run e) = true := h
  rcases onP_ok h with ⟨c, off, hx, h⟩ | h
  · obtain ⟨C, el, fr, l, h1, h2, h3, h4, h5⟩ := cellsK_ok hH h
    exact ⟨c, off, C, el, fr, l, by rw [← opdS_ok hr, hx]; rfl, h1, h2, extract_vals h3, h5⟩
  · cases h
theorem loadS_ok {o : Oper} {t : TypeId} {x : Operand} (ho : o.op = .load t x) : BodyOk I n P o (loadS I n P t x) := fun call ca e en F H k hc hr hH h => by
  unfold loadS at h
  split at h
  · rename_i fs hu
    obtain ⟨c, off, C, el, fr, l, h1, h2, h3, h4, h5⟩ := aggS_ok hr hH h
    refine ⟨.aa l, F, H, ?_, hH, h5⟩
    unfold evOp
    simp only [ho, h1, loadA, h2, hu, if_pos h3, h4, Option.map_some, FV.val]
  · rename_i m el' hu
    obtain ⟨c, off, C, el, fr, l, h1, h2, h3, h4, h5⟩ := aggS_ok hr hH h
    refine ⟨.aa l, F, H, ?_, hH, h5⟩
    unfold evOp
    simp only [ho, h1, loadA, h2, hu, if_pos h3, h4, Option.map_some, FV.val]
  · rename_i d hs ha hu
    have h : onP (cellK (fun v => k v F) F) false ((opdS I n x).run e) = true := h
    rcases onP_ok h with ⟨c, off, hx, h⟩ | h
    · obtain ⟨C, el, fr, f, h1, h2, h3⟩ := cellK_ok hH h
      have hx : rho en x = .pointer (some ⟨c, off, none⟩) := by rw [← opdS_ok hr, hx]; rfl
      refine ⟨f, F, H, ?_, hH, h3⟩
      unfold evOp
      simp only [ho, hx, loadA, h1, hu]
      cases d with
      | struct fs => exact (hs fs rfl).elim
      | array m el => exact (ha m el rfl).elim
      | _ => simp only [h2, Option.map_some]
    · cases h
  · cases h

/-! ### Stores -/
/-- Is it one cell? -/
noncomputable def isC (v : FV) : Bool := FV.rec (motive_1 := fun _ => Bool) (motive_2 := fun _ => Bool) (fun _ => true) (fun _ _ => true) (fun _ => true) (fun _ _ => true) (fun _ _ => true) (fun _ _ _ _ => true) (fun _ => true) (fun _ _ => false) (fun _ _ => false) (fun _ _ _ => true) (fun _ _ _ => true) (fun v => isCell v) false (fun _ _ _ _ => false) v
theorem isC_ok {v : FV} (h : isC v = true) : isCell v.val = true := by
  cases v with
  | oo v => exact h
  | aa => cases h
  | tt => cases h
  | _ => rfl
noncomputable def allC (k : Bool) (l : List FV) : Bool := List.rec (motive := fun _ => Bool) k (fun v _ ih => ifK ih (isC v)) l
theorem allC_ok {k : Bool} : ∀ {l : List FV}, allC k l = true → (FV.vals l).all isCell = true ∧ k = true
  | [], h => ⟨rfl, h⟩
  | v :: r, h => by
    have h : ifK (allC k r) (isC v) = true := h
    obtain ⟨h1, h2⟩ := ifK_ok h
    obtain ⟨h3, h4⟩ := allC_ok h2
    exact ⟨by rw [FV.vals, List.all_cons, isC_ok h1, h3]; rfl, h4⟩
/-- A value's cells. -/
noncomputable def fcells (k : List FV → Bool) (v : FV) : Bool := onA (fun l => allC (k l) l) (ifK (k [v]) (isC v)) v
theorem cell_cells {v : Value} (h : isCell v = true) : v.cells = #[v] := by cases v <;> first | rfl | cases h
theorem fcells_ok {k : List FV → Bool} {v : FV} (h : fcells k v = true) : ∃ l, v.val.cells = (FV.vals l).toArray ∧ (FV.vals l).all isCell = true ∧ k l = true := by
  rcases onA_ok h with ⟨l, rfl, h⟩ | h
  · obtain ⟨h1, h2⟩ := allC_ok h
    exact ⟨l, rfl, h1, h2⟩
  · obtain ⟨h1, h2⟩ := ifK_ok h
    exact ⟨[v], by rw [cell_cells (isC_ok h1)]; rfl, by simp [FV.vals, isC_ok h1], h2⟩
noncomputable def frzK (k : Bool) (off off2 lo hi : Nat) : Bool := iteK (iteK (ifK k (Nat.ble off2 lo)) k (Nat.ble hi off)) k (Nat.beq lo hi)
theorem frzK_ok {k : Bool} {off off2 lo hi : Nat} (h : frzK k off off2 lo hi = true) : (decide (hi ≤ off) || decide (off2 ≤ lo) || lo == hi) = true ∧ k = true := by
  rcases iteK_ok h with ⟨_, h⟩ | ⟨h1, h⟩
  · rcases iteK_ok h with ⟨_, h⟩ | ⟨h1, h⟩
    · obtain ⟨h1, h2⟩ := ifK_ok h
      exact ⟨by simp [Nat.le_of_ble_eq_true h1], h2⟩
    · exact ⟨by simp [Nat.le_of_ble_eq_true h1], h⟩
  · exact ⟨by simp [Nat.eq_of_beq_eq_true h1], h⟩
noncomputable def mkCl (k : FObj → Bool) (n e lo hi : Nat) (t : Q FV) : Bool := k (.cl n t e lo hi)
noncomputable def mkYy (k : FObj → Bool) (n e lo hi : Nat) (x : Nat) : Bool := k (.yy n x e lo hi)
/-- Cells written over cells. -/
noncomputable def updCl (l : List FV) (off len : Nat) (k : FObj → Bool) (n : Nat) (t : Q FV) (e lo hi : Nat) : Bool := ifK (frzK (setL l (mkCl k n e lo hi) off t) off (Nat.add off len) lo hi) (Nat.ble (Nat.add off len) n)
/-- A byte, or bytes, written over bytes. -/
noncomputable def setBy (n x off m y : Nat) : Nat := catN off x (catN m y (Nat.shiftRight x (Nat.mul 8 (Nat.add off m))))
noncomputable def updYb (off : Nat) (k : FObj → Bool) (n x e lo hi : Nat) (kd : IntKind) (b : Int) : Bool :=
  ifK (Int.rec (motive := fun _ => Bool) (fun b => ifK (natK (mkYy k n e lo hi) (setBy n x off 1 b)) (Nat.ble b 255)) (fun _ => false) b) (decide (kd = .u8))
noncomputable def updYy (l : List FV) (off len : Nat) (k : FObj → Bool) (n x e lo hi : Nat) : Bool :=
  List.rec (motive := fun _ => Bool) false (fun v r _ => List.rec (motive := fun _ => Bool) (ifK (frzK (onInt (fun _ => false) (updYb off k n x e lo hi) false v) off (Nat.add off 1) lo hi) (Nat.ble (Nat.add off 1) n)) (fun _ _ _ => false) r) l
noncomputable def updO (l : List FV) (off len : Nat) (k : FObj → Bool) (o : FObj) : Bool := FObj.rec (motive := fun _ => Bool) (updCl l off len k) (updYy l off len k) (fun _ _ _ => false) (fun _ _ => false) o
theorem bytesL_all (l : List Value) : ∀ b ∈ l.map id, b ∈ l := by simp
theorem setBy_ok {n x off m y : Nat} (h : off + m ≤ n) : bytesL n (setBy n x off m y) = (bytesL n x).take off ++ bytesL m y ++ (bytesL n x).drop (off + m) := by
  have e1 : n = off + (m + (n - (off + m))) := by omega
  have h1 : bytesL n (setBy n x off m y) = bytesL off x ++ (bytesL m y ++ bytesL (n - (off + m)) (Nat.shiftRight x (8 * (off + m)))) := by
    conv => lhs; arg 1; rw [e1]
    rw [show setBy n x off m y = x % 2 ^ (8 * off) + Nat.shiftLeft (y % 2 ^ (8 * m) + Nat.shiftLeft (Nat.shiftRight x (8 * (off + m))) (8 * m)) (8 * off) from rfl, bytesL_app, bytesL_app]
  have h2 : (bytesL n x).take off = bytesL off x := by
    have := bytesL_take off (n - off) x
    rwa [show off + (n - off) = n by omega] at this
  have h3 : (bytesL n x).drop (off + m) = bytesL (n - (off + m)) (Nat.shiftRight x (8 * (off + m))) := by
    have := bytesL_drop (off + m) (n - (off + m)) x
    rwa [show off + m + (n - (off + m)) = n by omega] at this
  rw [h1, h2, h3, List.append_assoc]
theorem updO_ok {l : List FV} {off len : Nat} {k : FObj → Bool} {o : FObj} {O : Obj} (hO : FObjR o O) (hl : len = l.length) (h : updO l off len k o = true) :
    ∃ C e lo hi, O = .cells C e (lo, hi) ∧ off + l.length ≤ C.size ∧ (decide (hi ≤ off) || decide (off + l.length ≤ lo) || lo == hi) = true ∧ ∃ o', FObjR o' (.cells (writeCells C off (FV.vals l)) e (lo, hi)) ∧ k o' = true := by
  subst hl
  cases o with
  | cl n t e lo hi =>
    obtain ⟨C, rfl, h1, h2⟩ := hO
    have h : ifK (frzK (setL l (mkCl k n e lo hi) off t) off (Nat.add off l.length) lo hi) (Nat.ble (Nat.add off l.length) n) = true := h
    obtain ⟨h3, h4⟩ := ifK_ok h
    obtain ⟨h5, h6⟩ := frzK_ok h4
    have h3 : off + l.length ≤ n := Nat.le_of_ble_eq_true h3
    obtain ⟨t', h7, h8⟩ := setL_ok l _ off t C h1 h3 h2 h6
    exact ⟨C, e, lo, hi, rfl, by rw [h1]; exact h3, h5, .cl n t' e lo hi, ⟨_, rfl, by rw [writeCells_sz, h1], h7⟩, h8⟩
  | yy n x e lo hi =>
    cases l with
    | nil => cases h
    | cons v r =>
      cases r with
      | cons => cases h
      | nil =>
        have h : ifK (frzK (onInt (fun _ => false) (updYb off k n x e lo hi) false v) off (Nat.add off 1) lo hi) (Nat.ble (Nat.add off 1) n) = true := h
        obtain ⟨h3, h4⟩ := ifK_ok h
        obtain ⟨h5, h6⟩ := frzK_ok h4
        have h3 : off + 1 ≤ n := Nat.le_of_ble_eq_true h3
        rcases onInt_ok h6 with ⟨_, _, h20⟩ | ⟨kd, b, hv, h20⟩ | h20
        · cases h20
        · obtain ⟨h21, h22⟩ := ifK_ok h20
          have h21 : kd = .u8 := of_decide_eq_true h21
          subst h21
          cases b with
          | negSucc => cases h22
          | ofNat b =>
            have h22 : ifK (natK (mkYy k n e lo hi) (setBy n x off 1 b)) (Nat.ble b 255) = true := h22
            obtain ⟨h9, h10⟩ := ifK_ok h22
            rw [natK_eq] at h10
            have h9 : b ≤ 255 := Nat.le_of_ble_eq_true h9
            refine ⟨_, e, lo, hi, hO, by simpa [bytesL_len] using h3, h5, .yy n (setBy n x off 1 b) e lo hi, ?_, h10⟩
            show Obj.cells _ e (lo, hi) = Obj.cells _ e (lo, hi)
            congr 1
            apply Array.ext'
            rw [writeCells_all _ _ _ (by simpa [bytesL_len, FV.vals] using h3), setBy_ok h3]
            subst hv
            simp only [FV.vals, FV.val, List.map_append, List.map_take, List.map_drop]
            congr 2
            show _ = [byteC (UInt8.ofNat b)]
            rw [byteC_mod, Nat.mod_eq_of_lt (by omega)]
        · cases h20
  | it => cases h
  | mp => cases h
/-- A list's length, reckoned. -/
noncomputable def lenL (l : List FV) : Nat := List.rec (motive := fun _ => Nat) 0 (fun _ _ ih => Nat.add ih 1) l
theorem lenL_eq : ∀ l : List FV, lenL l = l.length
  | [] => rfl
  | x :: r => by show Nat.add (lenL r) 1 = _; rw [lenL_eq r]; rfl
noncomputable def wr1 (k : FV → FH → Bool) (sz : Nat) (F : FH) (c o : Nat) (l : List FV) : Bool := ifK (wrK (updO l o sz) (k undefF) F c) (Nat.beq (lenL l) sz)
noncomputable def st1 (k : FV → FH → Bool) (sz : Nat) (F : FH) (y : FV) (c o : Nat) : Bool := fcells (wr1 k sz F c o) y
noncomputable def storeS (I : EnvI E) (n : Nat) (P : Program) (t : TypeId) (x y : Operand) : BodyK E :=
  match P.info? t with
  | some i => natR (fun sz => GetK.rec (motive := fun _ => BodyK E) (fun gx => GetK.rec (motive := fun _ => BodyK E) (fun gy => ⟨fun _ k t F => onP (st1 k sz F (gy t)) false (gx t)⟩) (opdS I n y)) (opdS I n x)) i.size
  | none => ⟨fun _ _ _ _ => false⟩
theorem storeS_ok {o : Oper} {t : TypeId} {x y : Operand} (ho : o.op = .store t x y) : BodyOk I n P o (storeS I n P t x y) := fun call ca e en F H k hc hr hH h => by
  unfold storeS at h
  split at h
  case h_2 => cases h
  rename_i i hi
  rw [natR_eq] at h
  have h : onP (st1 k i.size F ((opdS I n y).run e)) false ((opdS I n x).run e) = true := h
  rcases onP_ok h with ⟨c, off, hx, h⟩ | h
  · have hx : rho en x = .pointer (some ⟨c, off, none⟩) := by rw [← opdS_ok hr, hx]; rfl
    obtain ⟨l, h1, h2, h3⟩ := fcells_ok h
    rw [opdS_ok hr] at h1
    obtain ⟨h4, h5⟩ := ifK_ok h3
    rw [lenL_eq] at h4
    have h4 := Nat.eq_of_beq_eq_true h4
    obtain ⟨b, o', hb, hl, ht, hO, co, h6, h7⟩ := wrK_ok hH h5
    obtain ⟨C, el, lo, hi', h8, h9, h10, o2, h11, h12⟩ := updO_ok hO h4.symm h6
    obtain ⟨F', h13, h14⟩ := h7 o2 h12 _ h11 (by rw [h8]; exact ⟨(writeCells_sz _ _ _).symm, rfl⟩)
    refine ⟨undefF, F', _, ?_, h13, h14⟩
    unfold evOp
    have hsz : (rho en y).cells.size = l.length := by rw [h1]; simp [FV.vals_eq]
    have hcs : (rho en y).cells.toList = FV.vals l := by rw [h1]
    have hsz' : off + l.length ≤ C.size := h9
    have hcond : (H.live c b && H.tip c b && (P.info? t).map (·.size) == some (rho en y).cells.size && decide (off + (rho en y).cells.size ≤ C.size) && (rho en y).cells.toList.all isCell && (decide (hi' ≤ off) || decide (off + (rho en y).cells.size ≤ lo) || lo == hi')) = true := by
      rw [hl, ht, hi, hsz, hcs, h2, h10, h4]
      simp only [Bool.true_and, Bool.and_true, Option.map_some, decide_eq_true (h4 ▸ hsz'), beq_self_eq_true]
    simp only [ho, hx, storeA, hb, h8]
    rw [if_pos hcond, hcs]
    rfl
  · cases h
end
end Go.Proofs.YtaadahhjdkkkaaaGreatDoor.Ev
