/-
  The machine's operations: functions, interfaces, maps, calls; one body for each operation.
-/
import Derived.Test.YtaadahhjdkkkaaaGreatDoorEvVmI
namespace Go.Proofs.YtaadahhjdkkkaaaGreatDoor.Ev
set_option linter.unusedVariables false
set_option linter.unusedSimpArgs false
open Go
section
variable {E : Type} {I : EnvI E} {n : Nat} {P : Program} {F : FH} {H : AH}

/-! ### Lists of operands -/
structure ArgK (E : Type) where
  run : E → List FV
noncomputable def argsS (I : EnvI E) (n : Nat) : List Operand → ArgK E
  | [] => ⟨fun _ => []⟩
  | x :: r => GetK.rec (motive := fun _ => ArgK E) (fun g => ArgK.rec (motive := fun _ => ArgK E) (fun rr => ⟨fun t => g t :: rr t⟩) (argsS I n r)) (opdS I n x)
theorem argsS_ok {e : E} {en : List Value} (hr : REv I n e en) : ∀ l : List Operand, FV.vals ((argsS I n l).run e) = l.map (rho en)
  | [] => rfl
  | x :: r => by
    show FV.vals ((opdS I n x).run e :: (argsS I n r).run e) = _
    rw [FV.vals, argsS_ok hr r, opdS_ok hr]; rfl

/-! ### Functions -/
noncomputable def capF (v : FV) : Bool := FV.rec (motive_1 := fun _ => Bool) (motive_2 := fun _ => Bool) (fun _ => true) (fun _ _ => true) (fun _ => true) (fun _ _ => true) (fun _ _ => true) (fun _ _ _ _ => true) (fun _ => true) (fun _ _ => false) (fun _ _ => false) (fun _ _ _ => false) (fun _ _ _ => false) (fun v => capB v) false (fun _ _ _ _ => false) v
theorem capF_ok {v : FV} (h : capF v = true) : capB v.val = true := by
  cases v with
  | oo v => exact h
  | aa => cases h
  | tt => cases h
  | ff => cases h
  | cc => cases h
  | _ => rfl
noncomputable def capAll (k : Bool) (l : List FV) : Bool := List.rec (motive := fun _ => Bool) k (fun v _ ih => ifK ih (capF v)) l
theorem capAll_ok {k : Bool} : ∀ {l : List FV}, capAll k l = true → (FV.vals l).all capB = true ∧ k = true
  | [], h => ⟨rfl, h⟩
  | v :: r, h => by
    obtain ⟨h1, h2⟩ := ifK_ok (show ifK (capAll k r) (capF v) = true from h)
    obtain ⟨h3, h4⟩ := capAll_ok h2
    exact ⟨by rw [FV.vals, List.all_cons, capF_ok h1, h3]; rfl, h4⟩
noncomputable def mkfK (k : FV → FH → Bool) (F : FH) (f : Nat) (l : List FV) : Bool := capAll (k (.ff f l) F) l
noncomputable def makeFnS (I : EnvI E) (n : Nat) (f : FuncId) (cap : Array Operand) : BodyK E := ArgK.rec (motive := fun _ => BodyK E) (fun a => ⟨fun _ k t F => mkfK k F f (a t)⟩) (argsS I n cap.toList)
theorem makeFnS_ok {o : Oper} {f : FuncId} {first cap : Array Operand} (ho : o.op = .makeFunc (.func f) first cap) (hf : first.isEmpty = true) : BodyFlat I n P o (makeFnS I n f cap) := fun call ev en F k hr h => by
  have h : capAll (k (.ff f ((argsS I n cap.toList).run ev)) F) ((argsS I n cap.toList).run ev) = true := h
  obtain ⟨h1, h2⟩ := capAll_ok h
  rw [argsS_ok hr] at h1
  refine ⟨_, fun ca H _ => ?_, h2⟩
  have h3 : cap.toList.all (fun x => capB (rho en x)) = true := by rw [List.all_map] at h1; exact h1
  unfold evOp
  simp only [ho, hf, h3, Bool.and_self, cond_true, FV.val, argsS_ok hr]
  congr 3
  apply Array.ext'
  simp

/-! ### Interfaces -/
noncomputable def heldF (v : FV) : Bool := FV.rec (motive_1 := fun _ => Bool) (motive_2 := fun _ => Bool) (fun _ => true) (fun _ _ => true) (fun _ => true) (fun _ _ => true) (fun _ _ => true) (fun _ _ _ _ => false) (fun _ => false) (fun l _ => heldB (.agg (FV.vals l).toArray)) (fun _ _ => false) (fun _ _ _ => false) (fun _ _ _ => false) (fun v => heldB v) false (fun _ _ _ _ => false) v
theorem heldF_ok {v : FV} (h : heldF v = true) : heldB v.val = true := by
  cases v with
  | oo v => exact h
  | aa l => exact h
  | tt => cases h
  | ff => cases h
  | cc => cases h
  | ll => cases h
  | mm => cases h
  | _ => rfl
noncomputable def mkiS (I : EnvI E) (n : Nat) (P : Program) (t : TypeId) (x : Operand) : BodyK E := match P.underlying t with
  | some (.interface _) => failB
  | some _ => GetK.rec (motive := fun _ => BodyK E) (fun g => ⟨fun _ k e F => ifK (k (.cc t (g e)) F) (heldF (g e))⟩) (opdS I n x)
  | none => failB
theorem mkiS_ok {o : Oper} {t : TypeId} {x : Operand} (ho : o.op = .makeInterface t x) : BodyFlat I n P o (mkiS I n P t x) := fun call ev en F k hr h => by
  unfold mkiS at h
  split at h
  · cases h
  · rename_i d hne hu
    obtain ⟨h1, h2⟩ := ifK_ok (show ifK (k (.cc t ((opdS I n x).run ev)) F) (heldF ((opdS I n x).run ev)) = true from h)
    have h1 := heldF_ok h1
    rw [opdS_ok hr] at h1
    refine ⟨_, fun ca H _ => ?_, h2⟩
    unfold evOp
    simp only [ho, hu]
    cases d with
    | interface m => exact (hne m rfl).elim
    | _ => simp only [h1, cond_true, FV.val, opdS_ok hr]
  · cases h

/-! ### Maps -/
noncomputable def mapNw (k : FV → FH → Bool) (c : Nat) (F : FH) : Bool := k (.mm c) F
noncomputable def makeMapS (P : Program) (t : TypeId) : BodyK E := match P.underlying t with
  | some (.map _ _) => ⟨fun _ k _ F => newX (mapNw k) (.mp [] 0) F⟩
  | _ => failB
theorem makeMapS_ok {o : Oper} {t : TypeId} (ho : o.op = .makeMap t none) : BodyOk I n P o (makeMapS P t) := fun call ca ev en F H k hc hr hH h => by
  unfold makeMapS at h
  split at h
  case h_2 => cases h
  rename_i hu
  obtain ⟨F', h1, h2⟩ := newX_ok (o := .mp [] 0) hH (O := .map #[] 0) rfl h
  refine ⟨.mm H.next, F', _, ?_, h1, h2⟩
  unfold evOp
  simp only [ho, hu]
  rfl
theorem sameStr (a b : ByteArray) : Instr.sameNow .string (.string a) (.string b) = some (decide (a = b)) := by
  show some (a == b) = _
  congr 1
  by_cases h : a = b
  · subst h
    rw [decide_eq_true rfl]
    show (a.data == a.data) = true
    simp
  · rw [decide_eq_false h]
    have : ¬ (a == b) = true := fun e => h (by
      obtain ⟨x⟩ := a
      obtain ⟨y⟩ := b
      have e : x = y := by simpa using (show (x == y) = true from e)
      rw [e])
    exact Bool.eq_false_iff.2 this
/-- Are two keys the same? None: they are of other kinds. -/
noncomputable def kNat (kt kf : Bool) (a b : Nat) : Bool := iteK kf kt (Nat.beq a b)
noncomputable def kInt2 (kt kf : Bool) (b : Int) (a : Nat) : Bool := Int.rec (motive := fun _ => Bool) (fun b => iteK kf kt (Nat.beq a b)) (fun _ => kf) b
noncomputable def kInt (kt kf : Bool) (kd : IntKind) (a : Int) (kd' : IntKind) (b : Int) : Bool := ifK (iteK kf kt (decide (a = b))) (decide (kd = kd'))
noncomputable def kStr (kt kf : Bool) (n x m y : Nat) : Bool := iteK kf kt (ssEqB n x m y)
noncomputable def keyK (kind : TypeDesc) (kt kf : Bool) (x y : FV) : Bool := match kind with
  | .int _ => onInt (fun a => onN (kNat kt kf a) false y) (fun kd a => onInt (fun _ => false) (kInt kt kf kd a) false y) false x
  | .string => onS (fun n s => onS (kStr kt kf n s) false y) false x
  | _ => false
theorem keyK_ok {kind : TypeDesc} {kt kf : Bool} {x y : FV} (h : keyK kind kt kf x y = true) : keyKind kind = true ∧ atomB x.val = true ∧ ((Instr.sameNow kind x.val y.val = some true ∧ kt = true) ∨ (Instr.sameNow kind x.val y.val = some false ∧ kf = true)) := by
  unfold keyK at h
  split at h
  · rcases onInt_ok h with ⟨a, hx, g⟩ | ⟨kd, a, hx, g⟩ | g
    · rcases onN_ok (show onN (kNat kt kf a) false y = true from g) with ⟨b, hy, g1⟩ | g1
      · subst hx; subst hy
        refine ⟨rfl, rfl, ?_⟩
        rcases iteK_ok g1 with ⟨h1, h2⟩ | ⟨h1, h2⟩
        · refine .inr ⟨?_, h2⟩
          have : a ≠ b := fun e => by rw [e, Nat.beq_refl] at h1; cases h1
          simp [Instr.sameNow, FV.val]
          omega
        · refine .inl ⟨?_, h2⟩
          have := Nat.eq_of_beq_eq_true h1
          simp [Instr.sameNow, FV.val, this]
      · cases g1
    · rcases onInt_ok (show onInt (fun _ => false) (kInt kt kf kd a) false y = true from g) with ⟨b, hy, g1⟩ | ⟨kd', b, hy, g1⟩ | g1
      · cases g1
      · subst hx; subst hy
        refine ⟨rfl, rfl, ?_⟩
        obtain ⟨h0, g2⟩ := ifK_ok g1
        have h0 : kd = kd' := of_decide_eq_true h0
        subst h0
        rcases iteK_ok g2 with ⟨h1, h2⟩ | ⟨h1, h2⟩
        · refine .inr ⟨?_, h2⟩
          have : a ≠ b := of_decide_eq_false h1
          simp [Instr.sameNow, FV.val, this]
        · refine .inl ⟨?_, h2⟩
          have : a = b := of_decide_eq_true h1
          simp [Instr.sameNow, FV.val, this]
      · cases g1
    · cases g
  · rcases onS_ok h with ⟨n, s, hx, g⟩ | g
    · rcases onS_ok (show onS (kStr kt kf n s) false y = true from g) with ⟨m, u, hy, g1⟩ | g1
      · subst hx; subst hy
        refine ⟨rfl, rfl, ?_⟩
        have e := ssEqB_eq n s m u
        have hb : Instr.sameNow .string (FV.ss n s).val (FV.ss m u).val = some (decide (bytesA n s = bytesA m u)) := by
          exact sameStr _ _
        rcases iteK_ok g1 with ⟨h1, h2⟩ | ⟨h1, h2⟩
        · exact .inr ⟨by rw [hb, ← e, h1], h2⟩
        · exact .inl ⟨by rw [hb, ← e, h1], h2⟩
      · cases g1
    · cases g
  · cases h
noncomputable def atB (v : FV) : Bool := FV.rec (motive_1 := fun _ => Bool) (motive_2 := fun _ => Bool) (fun _ => true) (fun _ _ => true) (fun _ => true) (fun _ _ => true) (fun _ _ => false) (fun _ _ _ _ => false) (fun _ => false) (fun _ _ => false) (fun _ _ => false) (fun _ _ _ => false) (fun _ _ _ => false) (fun _ => false) false (fun _ _ _ _ => false) v
theorem atB_ok {v : FV} (h : atB v = true) : atomB v.val = true ∧ noTuple v.val = true := by
  cases v <;> first | (cases h; done) | exact ⟨rfl, rfl⟩
/-- A key among entries. -/
noncomputable def findE (kind : TypeDesc) (x : FV) (kf : Bool) (kh : Nat → FV → Bool) (l : List FEnt) : Nat → Bool :=
  List.rec (motive := fun _ => Nat → Bool) (fun _ => kf) (fun e _ ih i => FEnt.rec (motive := fun _ => Bool) (fun ky v _ => keyK kind (kh i v) (ih (Nat.succ i)) x ky) e) l
theorem findE_ok {kind : TypeDesc} {x : FV} {kf : Bool} {kh : Nat → FV → Bool} : ∀ {l : List FEnt} {i : Nat}, findE kind x kf kh l i = true → (Instr.findNow kind x.val (l.map FEnt.ent) i = some none ∧ kf = true) ∨ ∃ j v, i ≤ j ∧ Instr.findNow kind x.val (l.map FEnt.ent) i = some (some (j, FV.val v)) ∧ kh j v = true
  | [], i, h => .inl ⟨rfl, h⟩
  | ⟨ky, v, bn⟩ :: r, i, h => by
    have h : keyK kind (kh i v) (findE kind x kf kh r (i + 1)) x ky = true := h
    obtain ⟨_, _, h | h⟩ := keyK_ok h
    · refine .inr ⟨i, v, Nat.le_refl _, ?_, h.2⟩
      rw [List.map_cons, Instr.findNow]
      simp only [FEnt.ent, h.1]
    · have e : Instr.findNow kind x.val ((⟨ky, v, bn⟩ :: r : List FEnt).map FEnt.ent) i = Instr.findNow kind x.val (r.map FEnt.ent) (i + 1) := by
        rw [List.map_cons, Instr.findNow]
        simp only [FEnt.ent, h.1]
      rw [e]
      rcases findE_ok h.2 with h2 | ⟨j, w, h1, h2, h3⟩
      · exact .inl h2
      · exact .inr ⟨j, w, by omega, h2, h3⟩
noncomputable def mpO (f : List FEnt → Nat → Bool) (o : FObj) : Bool := FObj.rec (motive := fun _ => Bool) (fun _ _ _ _ _ => false) (fun _ _ _ _ _ => false) (fun _ _ _ => false) f o
noncomputable def lkNo (f : List FEnt → Bool) (v : Value) : Bool := match v with
  | .map none => f []
  | _ => false
noncomputable def lkE (kind : TypeDesc) (kh : Nat → FV → Bool) (kf : Bool) (y : FV) (es : List FEnt) : Bool := ifK (findE kind y kf kh es 0) (atB y)
noncomputable def lk1 (kind : TypeDesc) (F : FH) (kh : Nat → FV → Bool) (kf : Bool) (x y : FV) : Bool := onM (fun c => objK (mpO fun es _ => lkE kind kh kf y es) F c) (lkNo (lkE kind kh kf y)) false x
noncomputable def lookS (I : EnvI E) (n : Nat) (P : Program) (t : TypeId) (x y : Operand) (ok : Bool) : BodyK E := match P.underlying t with
  | some (.map kt et) => match P.underlying kt, zeroT P et with
    | some kd, some z => Bool.rec (motive := fun _ => BodyK E) failB (convR failB (fun zf => GetK.rec (motive := fun _ => BodyK E) (fun gx => GetK.rec (motive := fun _ => BodyK E) (fun gy => Bool.rec (motive := fun _ => BodyK E)
        ⟨fun _ k e F => lk1 kd F (fun _ v => k v F) (k zf F) (gx e) (gy e)⟩ ⟨fun _ k e F => lk1 kd F (fun _ v => k (.tt [v, .bb true]) F) (k (.tt [zf, .bb false]) F) (gx e) (gy e)⟩ ok) (opdS I n y)) (opdS I n x)) z) (keyKind kd)
    | _, _ => failB
  | _ => failB
theorem lk1_ok {kind : TypeDesc} {kh : Nat → FV → Bool} {kf : Bool} {x y : FV} (hH : HR F H) (h : lk1 kind F kh kf x y = true) :
    atomB y.val = true ∧ ∃ es, mapRow H x.val = some es ∧ ((Instr.findNow kind y.val es 0 = some none ∧ kf = true) ∨ ∃ j v, Instr.findNow kind y.val es 0 = some (some (j, FV.val v)) ∧ kh j v = true) := by
  have key : ∀ es, lkE kind kh kf y es = true → atomB y.val = true ∧ ((Instr.findNow kind y.val (es.map FEnt.ent) 0 = some none ∧ kf = true) ∨ ∃ j v, Instr.findNow kind y.val (es.map FEnt.ent) 0 = some (some (j, FV.val v)) ∧ kh j v = true) := fun es h => by
    obtain ⟨h1, h2⟩ := ifK_ok h
    refine ⟨(atB_ok h1).1, ?_⟩
    rcases findE_ok h2 with h3 | ⟨j, v, _, h3, h4⟩
    · exact .inl h3
    · exact .inr ⟨j, v, h3, h4⟩
  rcases onM_ok h with ⟨c, rfl, h⟩ | ⟨v, rfl, h⟩ | h
  · obtain ⟨o, b, hb, hl, hO, h2⟩ := objK_ok hH h
    cases o with
    | cl => cases h2
    | yy => cases h2
    | it => cases h2
    | mp es ck =>
      obtain ⟨h3, h4⟩ := key es h2
      refine ⟨h3, es.map FEnt.ent, ?_, h4⟩
      have hO : b.obj = .map (es.map FEnt.ent).toArray ck := hO
      simp only [mapRow, FV.val, hb, hl, hO]
  · replace h : lkNo (lkE kind kh kf y) v = true := h
    unfold lkNo at h
    split at h
    case h_2 => cases h
    obtain ⟨h3, h4⟩ := key [] h
    exact ⟨h3, [], rfl, h4⟩
  · cases h
theorem lookS_ok {o : Oper} {t : TypeId} {x y : Operand} {ok : Bool} (ho : o.op = .lookup t x y ok) : BodyOk I n P o (lookS I n P t x y ok) := fun call ca ev en F H k hc hr hH h => by
  unfold lookS at h
  split at h
  case h_2 => cases h
  rename_i kt et hu
  split at h
  case h_2 => cases h
  rename_i kd z hk hz
  cases hkd : keyKind kd with
  | false => rw [hkd] at h; cases h
  | true =>
    rw [hkd] at h
    have h : (convR failB (fun zf => GetK.rec (motive := fun _ => BodyK E) (fun gx => GetK.rec (motive := fun _ => BodyK E) (fun gy => Bool.rec (motive := fun _ => BodyK E)
        ⟨fun _ k e F => lk1 kd F (fun _ v => k v F) (k zf F) (gx e) (gy e)⟩ ⟨fun _ k e F => lk1 kd F (fun _ v => k (.tt [v, .bb true]) F) (k (.tt [zf, .bb false]) F) (gx e) (gy e)⟩ ok) (opdS I n y)) (opdS I n x)) z : BodyK E).run call k ev F = true := h
    rcases convR_ok failB (fun zf => GetK.rec (motive := fun _ => BodyK E) (fun gx => GetK.rec (motive := fun _ => BodyK E) (fun gy => Bool.rec (motive := fun _ => BodyK E)
        ⟨fun _ k e F => lk1 kd F (fun _ v => k v F) (k zf F) (gx e) (gy e)⟩ ⟨fun _ k e F => lk1 kd F (fun _ v => k (.tt [v, .bb true]) F) (k (.tt [zf, .bb false]) F) (gx e) (gy e)⟩ ok) (opdS I n y)) (opdS I n x)) z with h2 | ⟨zf, h1, h2⟩
    · rw [h2] at h; cases h
    · rw [h2] at h
      cases ok with
      | false =>
        obtain ⟨h3, es, h4, h5⟩ := lk1_ok hH (show lk1 kd F (fun _ v => k v F) (k zf F) ((opdS I n x).run ev) ((opdS I n y).run ev) = true from h)
        rw [opdS_ok hr] at h3 h4 h5
        rcases h5 with ⟨h5, h6⟩ | ⟨j, v, h5, h6⟩
        · refine ⟨zf, F, H, ?_, hH, h6⟩
          unfold evOp
          simp only [ho, lookupA, hu, hk, hz, h4, hkd, h3, Bool.and_self, cond_true, h5, cond_false, Option.map_some, h1]
        · refine ⟨v, F, H, ?_, hH, h6⟩
          unfold evOp
          simp only [ho, lookupA, hu, hk, hz, h4, hkd, h3, Bool.and_self, cond_true, h5, cond_false, Option.map_some]
      | true =>
        obtain ⟨h3, es, h4, h5⟩ := lk1_ok hH (show lk1 kd F (fun _ v => k (.tt [v, .bb true]) F) (k (.tt [zf, .bb false]) F) ((opdS I n x).run ev) ((opdS I n y).run ev) = true from h)
        rw [opdS_ok hr] at h3 h4 h5
        rcases h5 with ⟨h5, h6⟩ | ⟨j, v, h5, h6⟩
        · refine ⟨_, F, H, ?_, hH, h6⟩
          unfold evOp
          simp only [ho, lookupA, hu, hk, hz, h4, hkd, h3, Bool.and_self, cond_true, h5, Option.map_some, FV.val, FV.vals, h1]
        · refine ⟨_, F, H, ?_, hH, h6⟩
          unfold evOp
          simp only [ho, lookupA, hu, hk, hz, h4, hkd, h3, Bool.and_self, cond_true, h5, Option.map_some, FV.val, FV.vals]
/-- An entry, or one more, written. -/
noncomputable def snocE (l : List FEnt) (e : FEnt) (k : List FEnt → Bool) : Bool := List.rec (motive := fun _ => (List FEnt → Bool) → Bool) (fun k => k [e]) (fun x _ ih k => ih fun r => k (x :: r)) l k
theorem snocE_eq (e : FEnt) : ∀ (l : List FEnt) (k : List FEnt → Bool), snocE l e k = k (l ++ [e])
  | [], k => rfl
  | x :: r, k => snocE_eq e r (fun r => k (x :: r))
noncomputable def setE (y v : FV) (l : List FEnt) : (List FEnt → Bool) → Nat → Bool := List.rec (motive := fun _ => (List FEnt → Bool) → Nat → Bool) (fun _ _ => false) (fun x r ih k i => Nat.rec (motive := fun _ => Bool) (FEnt.rec (motive := fun _ => Bool) (fun _ _ b => k (⟨y, v, b⟩ :: r)) x) (fun j _ => ih (fun r => k (x :: r)) j) i) l
theorem setE_ok {y v : FV} : ∀ {l : List FEnt} {k : List FEnt → Bool} {i : Nat}, setE y v l k i = true → ∃ l', l'.map FEnt.ent = (l.map FEnt.ent).modify i (fun e => { e with key := y.val, val := v.val }) ∧ k l' = true
  | [], k, i, h => by cases h
  | ⟨ky, w, b⟩ :: r, k, 0, h => ⟨⟨y, v, b⟩ :: r, by simp [FEnt.ent], h⟩
  | x :: r, k, i + 1, h => by
    obtain ⟨l', h1, h2⟩ := setE_ok (l := r) (i := i) h
    exact ⟨x :: l', by simp [h1], h2⟩
noncomputable def upE (kind : TypeDesc) (y v : FV) (co : FObj → Bool) (es : List FEnt) (ck : Nat) : Bool :=
  findE kind y (snocE es ⟨y, v, ck⟩ fun l => natK (fun c => co (.mp l c)) (Nat.succ ck)) (fun i _ => setE y v es (fun l => co (.mp l ck)) i) es 0
noncomputable def noTF (v : FV) : Bool := FV.rec (motive_1 := fun _ => Bool) (motive_2 := fun _ => Bool) (fun _ => true) (fun _ _ => true) (fun _ => true) (fun _ _ => true) (fun _ _ => true) (fun _ _ _ _ => true) (fun _ => true) (fun _ _ => true) (fun _ _ => false) (fun _ _ _ => true) (fun _ _ _ => true) (fun v => noTuple v) false (fun _ _ _ _ => false) v
theorem noTF_ok {v : FV} (h : noTF v = true) : noTuple v.val = true := by
  cases v with
  | oo v => exact h
  | tt => cases h
  | _ => rfl
noncomputable def up1 (kind : TypeDesc) (k : FV → FH → Bool) (F : FH) (y v : FV) (c : Nat) : Bool := ifK (ifK (wrK (fun co o => mpO (upE kind y v co) o) (k undefF) F c) (atB y)) (noTF v)
noncomputable def updS (I : EnvI E) (n : Nat) (P : Program) (t : TypeId) (x y w : Operand) : BodyK E := match P.underlying t with
  | some (.map kt _) => match P.underlying kt with
    | some kd => Bool.rec (motive := fun _ => BodyK E) failB (GetK.rec (motive := fun _ => BodyK E) (fun gx => GetK.rec (motive := fun _ => BodyK E) (fun gy => GetK.rec (motive := fun _ => BodyK E) (fun gw => ⟨fun _ k e F => onM (up1 kd k F (gy e) (gw e)) (fun _ => false) false (gx e)⟩) (opdS I n w)) (opdS I n y)) (opdS I n x)) (keyKind kd)
    | none => failB
  | _ => failB
theorem updS_ok {o : Oper} {t : TypeId} {x y w : Operand} (ho : o.op = .mapUpdate t x y w) : BodyOk I n P o (updS I n P t x y w) := fun call ca ev en F H k hc hr hH h => by
  unfold updS at h
  split at h
  case h_2 => cases h
  rename_i kt et hu
  split at h
  case h_2 => cases h
  rename_i kd hk
  cases hkd : keyKind kd with
  | false => rw [hkd] at h; cases h
  | true =>
    rw [hkd] at h
    rcases onM_ok (show onM (up1 kd k F ((opdS I n y).run ev) ((opdS I n w).run ev)) (fun _ => false) false ((opdS I n x).run ev) = true from h) with ⟨c, hx, h⟩ | ⟨_, _, h⟩ | h
    · have hx : rho en x = .map (some c) := by rw [← opdS_ok hr, hx]; rfl
      obtain ⟨h1, h2⟩ := ifK_ok h
      obtain ⟨h3, h4⟩ := ifK_ok h2
      have h1 := noTF_ok h1
      have h3 := (atB_ok h3).1
      obtain ⟨b, o', hb, hl, ht, hO, co, h5, h6⟩ := wrK_ok hH h4
      cases o' with
      | cl => cases h5
      | yy => cases h5
      | it => cases h5
      | mp es ck =>
        have hO : b.obj = .map (es.map FEnt.ent).toArray ck := hO
        have h5 : findE kd ((opdS I n y).run ev) (snocE es ⟨(opdS I n y).run ev, (opdS I n w).run ev, ck⟩ fun l => natK (fun c => co (.mp l c)) (Nat.succ ck)) (fun i _ => setE ((opdS I n y).run ev) ((opdS I n w).run ev) es (fun l => co (.mp l ck)) i) es 0 = true := h5
        have hcond : (H.live c b && H.tip c b && keyKind kd && atomB (rho en y) && noTuple (rho en w)) = true := by
          rw [opdS_ok hr] at h1 h3
          rw [hl, ht, hkd, h3, h1]; rfl
        rcases findE_ok h5 with ⟨h7, h8⟩ | ⟨j, v, _, h7, h8⟩
        · rw [snocE_eq, natK_eq] at h8
          rw [opdS_ok hr] at h7
          obtain ⟨F', h9, h10⟩ := h6 _ h8 (.map ((es.map FEnt.ent).toArray.push { key := rho en y, val := rho en w, born := ck }) (ck + 1)) (by
            show Obj.map _ _ = Obj.map _ _
            congr 1
            apply Array.ext'
            simp [FEnt.ent, opdS_ok hr]) (by rw [hO]; trivial)
          refine ⟨undefF, F', _, ?_, h9, h10⟩
          unfold evOp
          simp only [ho, mapUpdateA, hu, hx, hk, hb, hcond, hO, h7, Option.map_some]
          rfl
        · obtain ⟨l', h9, h10⟩ := setE_ok h8
          rw [opdS_ok hr] at h7 h9
          rw [opdS_ok hr] at h9
          obtain ⟨F', h11, h12⟩ := h6 _ h10 (.map ((es.map FEnt.ent).toArray.modify j fun e => { e with key := rho en y, val := rho en w }) ck) (by
            show Obj.map _ _ = Obj.map _ _
            congr 1
            apply Array.ext'
            simp [h9]) (by rw [hO]; trivial)
          refine ⟨undefF, F', _, ?_, h11, h12⟩
          unfold evOp
          simp only [ho, mapUpdateA, hu, hx, hk, hb, hcond, hO, h7, Option.map_some]
          rfl
    · cases h
    · cases h
end
end Go.Proofs.YtaadahhjdkkkaaaGreatDoor.Ev
