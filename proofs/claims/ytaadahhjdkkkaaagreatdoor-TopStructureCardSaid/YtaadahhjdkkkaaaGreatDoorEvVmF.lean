/-
  The machine's operations on the heap: new variables, values of parts, new rows, texts gone through.
-/
import Derived.Test.YtaadahhjdkkkaaaGreatDoorEvVmE
namespace Go.Proofs.YtaadahhjdkkkaaaGreatDoor.Ev
set_option linter.unusedVariables false
set_option linter.unusedSimpArgs false
open Go
section
variable {E : Type} {I : EnvI E} {n : Nat} {P : Program}

def failB : BodyK E := ⟨fun _ _ _ _ => false⟩
/-- A list of values, made ready once. -/
noncomputable def readyL (f : List FV → BodyK E) (l : List Value) : BodyK E := convL (convR failB) l f
theorem readyL_ok {f : List FV → BodyK E} {l : List Value} {call : CallT} {k : FV → FH → Bool} {t : E} {F : FH} (h : (readyL f l).run call k t F = true) : ∃ fs, FV.vals fs = l ∧ (f fs).run call k t F = true := by
  unfold readyL at h
  rcases convL_ok (fun k v => convR_ok failB k v) l f with h2 | ⟨fs, h1, h2⟩
  · rw [h2] at h; cases h
  · rw [h2] at h; exact ⟨fs, h1, h⟩
noncomputable def readyQ (f : Q FV → BodyK E) (l : List FV) : BodyK E := layR failB l f 0 Q.emp
theorem readyQ_ok {f : Q FV → BodyK E} {l : List FV} {call : CallT} {k : FV → FH → Bool} {t : E} {F : FH} (h : (readyQ f l).run call k t F = true) : ∃ q : Q FV, (∀ j v, q.get j = some v → (FV.vals l)[j]? = some (FV.val v)) ∧ (f q).run call k t F = true := by
  unfold readyQ at h
  rcases layR_ok (z := failB) l f 0 Q.emp [] rfl (fun j f hj => by cases hj) with h2 | ⟨q, h1, h2⟩
  · rw [h2] at h; cases h
  · rw [h1] at h; exact ⟨q, by simpa using h2, h⟩
theorem clR {l : List FV} {q : Q FV} {C : Array Value} {e lo hi n : Nat} (hq : ∀ j v, q.get j = some v → (FV.vals l)[j]? = some (FV.val v)) (hC : C.toList = FV.vals l) (hn : n = l.length) : FObjR (.cl n q e lo hi) (.cells C e (lo, hi)) := by
  refine ⟨C, rfl, ?_, fun i f hf => ?_⟩
  · rw [← Array.length_toList, hC, FV.vals_eq, hn]; simp
  · rw [← Array.getElem?_toList, hC]; exact hq i f hf

/-! ### New variables -/
noncomputable def ptrK (k : FV → FH → Bool) (c : Nat) (F : FH) : Bool := k (.pp c 0) F
noncomputable def allocS (P : Program) (e : TypeId) : BodyK E :=
  match zeroT P e with
  | some z => readyL (fun l => natR (fun m => readyQ (fun q => ⟨fun _ k _ F => newX (ptrK k) (.cl m q e 0 0) F⟩) l) (lenL l)) z.cells.toList
  | none => failB
theorem allocS_ok {o : Oper} {el : TypeId} (ho : o.op = .alloc el) : BodyOk I n P o (allocS P el) := fun call ca e en F H k hc hr hH h => by
  unfold allocS at h
  split at h
  case h_2 => cases h
  rename_i z hz
  obtain ⟨l, h1, h2⟩ := readyL_ok h
  rw [natR_eq] at h2
  obtain ⟨q, h3, h4⟩ := readyQ_ok h2
  obtain ⟨F', h5, h6⟩ := newX_ok hH (clR h3 h1.symm (lenL_eq l)) h4
  refine ⟨.pp H.next 0, F', _, ?_, h5, h6⟩
  unfold evOp
  simp only [ho, hz]
  rfl
noncomputable def boxQ (k : FV → FH → Bool) (e : TypeId) (F : FH) (m : Nat) (q : Q FV) : Bool := newX (ptrK k) (.cl m q e 0 0) F
noncomputable def boxL (k : FV → FH → Bool) (e : TypeId) (F : FH) (l : List FV) : Bool := natK (fun m => layL (boxQ k e F m) l) (lenL l)
noncomputable def boxS (I : EnvI E) (n : Nat) (e : TypeId) (x : Operand) : BodyK E := GetK.rec (motive := fun _ => BodyK E) (fun gx => ⟨fun _ k t F => fcells (boxL k e F) (gx t)⟩) (opdS I n x)
theorem boxS_ok {o : Oper} {el : TypeId} {x : Operand} (ho : o.op = .box el x) : BodyOk I n P o (boxS I n el x) := fun call ca e en F H k hc hr hH h => by
  have h : fcells (boxL k el F) ((opdS I n x).run e) = true := h
  obtain ⟨l, h1, h2, h3⟩ := fcells_ok h
  rw [opdS_ok hr] at h1
  unfold boxL at h3
  rw [natK_eq] at h3
  obtain ⟨q, h4, h5⟩ := layL_ok h3
  obtain ⟨F', h6, h7⟩ := newX_ok hH (O := .cells (rho en x).cells el (0, 0)) (clR h4 (by rw [h1]) (lenL_eq l)) h5
  refine ⟨.pp H.next 0, F', _, ?_, h6, h7⟩
  unfold evOp
  simp only [ho]
  rw [show (rho en x).cells.toList.all isCell = true by rw [h1]; exact h2]
  rfl

/-! ### Values of parts -/
noncomputable def ovL (l : List FV) : (List FV → Bool) → List FV → Bool :=
  List.rec (motive := fun _ => (List FV → Bool) → List FV → Bool) (fun k cs => k cs) (fun x _ ih k cs => List.rec (motive := fun _ => Bool) false (fun _ r _ => ih (consK k x) r) cs) l
/-- Cells over those of a list, from a place on. -/
noncomputable def putL (l : List FV) (k : List FV → Bool) (off : Nat) (cs : List FV) : Bool :=
  Nat.rec (motive := fun _ => (List FV → Bool) → List FV → Bool) (ovL l) (fun _ ih k cs => List.rec (motive := fun _ => Bool) false (fun c r _ => ih (consK k c) r) cs) off k cs
theorem ovL_ok : ∀ (l : List FV) (k : List FV → Bool) (cs : List FV), ovL l k cs = true → ∃ r, l.length ≤ cs.length ∧ r = l ++ cs.drop l.length ∧ k r = true
  | [], k, cs, h => ⟨cs, Nat.zero_le _, rfl, h⟩
  | x :: l, k, [], h => by cases h
  | x :: l, k, c :: cs, h => by
    obtain ⟨r, h1, h2, h3⟩ := ovL_ok l (consK k x) cs h
    exact ⟨x :: r, by simpa using h1, by simp [h2], h3⟩
theorem putL_ok {l : List FV} : ∀ (off : Nat) (k : List FV → Bool) (cs : List FV), putL l k off cs = true → ∃ r, off + l.length ≤ cs.length ∧ r = cs.take off ++ l ++ cs.drop (off + l.length) ∧ k r = true
  | 0, k, cs, h => by
    obtain ⟨r, h1, h2, h3⟩ := ovL_ok l k cs h
    exact ⟨r, by omega, by simp [h2], h3⟩
  | off + 1, k, [], h => by cases h
  | off + 1, k, c :: cs, h => by
    obtain ⟨r, h1, h2, h3⟩ := putL_ok off (consK k c) cs h
    refine ⟨c :: r, by simp; omega, ?_, h3⟩
    rw [h2, show off + 1 + l.length = (off + l.length) + 1 by omega]
    simp
theorem fold_write : ∀ (l : List Value) (C : Array Value) (off j : Nat), (l.zipIdx j).foldl (fun cs (p : Value × Nat) => cs.setIfInBounds (off + p.2) p.1) C = writeCells C (off + j) l
  | [], C, off, j => rfl
  | v :: r, C, off, j => by
    rw [List.zipIdx_cons, List.foldl_cons, fold_write r _ off (j + 1)]
    rfl
theorem fill_cons {place : Nat → Option (Nat × Nat)} {C : Array Value} {i off size : Nat} {v : Value} {rest : List (Nat × Value)} (hp : place i = some (off, size)) (h1 : v.cells.size = size) (h2 : off + v.cells.size ≤ C.size) :
    Instr.fill place C ((i, v) :: rest) = Instr.fill place (writeCells C off v.cells.toList) rest := by
  conv => lhs; unfold Instr.fill
  rw [hp]
  simp only
  rw [if_neg (by simp [h1]; omega)]
  congr 1
  have e : ∀ (V C : Array Value), V.zipIdx.foldl (fun cs (p : Value × Nat) => match p with | (c, j) => cs.setIfInBounds (off + j) c) C = (V.toList.zipIdx 0).foldl (fun cs p => cs.setIfInBounds (off + p.2) p.1) C := fun V C => by
    rw [← Array.foldl_toList, Array.toList_zipIdx]
  rw [e, fold_write]; rfl
structure PartK (E : Type) where
  run : (List FV → Bool) → E → List FV → Bool
noncomputable def part2 (r : (List FV → Bool) → E → List FV → Bool) (k : List FV → Bool) (t : E) (off size : Nat) (cs : List FV) (l : List FV) : Bool := ifK (putL l (r k t) off cs) (Nat.beq (lenL l) size)
noncomputable def failP : PartK E := ⟨fun _ _ _ => false⟩
noncomputable def partsS (I : EnvI E) (n : Nat) (place : Nat → Option (Nat × Nat)) : List (Nat × Operand) → PartK E
  | [] => ⟨fun k _ cs => k cs⟩
  | p :: r => match place p.1 with
    | some q => natR (fun off => natR (fun size => GetK.rec (motive := fun _ => PartK E) (fun g => PartK.rec (motive := fun _ => PartK E) (fun rr => ⟨fun k t cs => fcells (part2 rr k t off size cs) (g t)⟩) (partsS I n place r)) (opdS I n p.2)) q.2) q.1
    | none => failP
theorem vals_len (l : List FV) : (FV.vals l).length = l.length := by rw [FV.vals_eq]; simp
theorem partsS_ok {place : Nat → Option (Nat × Nat)} {e : E} {en : List Value} (hr : REv I n e en) : ∀ (ps : List (Nat × Operand)) (k : List FV → Bool) (cs : List FV), (partsS I n place ps).run k e cs = true →
    ∃ r, Instr.fill place (FV.vals cs).toArray (ps.map fun p => (p.1, rho en p.2)) = some (FV.vals r).toArray ∧ (ps.map fun p => (p.1, rho en p.2)).all (fun p => p.2.cells.toList.all isCell) = true ∧ k r = true
  | [], k, cs, h => ⟨cs, rfl, rfl, h⟩
  | p :: ps, k, cs, h => by
    unfold partsS at h
    split at h
    case h_2 => cases h
    rename_i q hq
    rw [natR_eq, natR_eq] at h
    have h : fcells (part2 (partsS I n place ps).run k e q.1 q.2 cs) ((opdS I n p.2).run e) = true := h
    obtain ⟨l, h1, h2, h3⟩ := fcells_ok h
    rw [opdS_ok hr] at h1
    obtain ⟨h4, h5⟩ := ifK_ok h3
    rw [lenL_eq] at h4
    have h4 := Nat.eq_of_beq_eq_true h4
    obtain ⟨r, h6, h7, h8⟩ := putL_ok _ _ _ h5
    obtain ⟨r', h9, h10, h11⟩ := partsS_ok hr ps k r h8
    refine ⟨r', ?_, ?_, h11⟩
    · rw [List.map_cons, fill_cons (off := q.1) (size := q.2) (by rw [hq]) (by rw [h1]; simp [vals_len, h4]) (by rw [h1]; simp [vals_len]; omega)]
      rw [← h9]
      congr 1
      apply Array.ext'
      rw [writeCells_all _ _ _ (by rw [h1]; simp [vals_len]; omega), h1, h7]
      simp only [FV.vals_eq, List.map_append, List.map_take, List.map_drop, List.length_map]
    · rw [List.map_cons, List.all_cons, h10, Bool.and_true]
      show (rho en p.2).cells.toList.all isCell = true
      rw [h1]; exact h2
noncomputable def aggP (p : (List FV → Bool) → E → List FV → Bool) (zl : List FV) (k : FV → FH → Bool) (t : E) (F : FH) : Bool := p (aggK k F) t zl
noncomputable def buildS (I : EnvI E) (n : Nat) (P : Program) (t : TypeId) (ps : Array (Nat × Operand)) : BodyK E :=
  match zeroT P t with
  | some z => match P.underlying t with
    | some (.struct fields) => match fields.toList.mapM (fun f => (P.info? f.type).map fun i => (f.offset, i.size)) with
      | some places => readyL (fun zl => PartK.rec (motive := fun _ => BodyK E) (fun p => ⟨fun _ k t F => p (aggK k F) t zl⟩) (partsS I n (places.toArray[·]?) ps.toList)) z.cells.toList
      | none => failB
    | some (.array _ el) => match P.info? el with
      | some ie => readyL (fun zl => PartK.rec (motive := fun _ => BodyK E) (fun p => ⟨fun _ k t F => p (aggK k F) t zl⟩) (partsS I n (fun i => some (i * ie.size, ie.size)) ps.toList)) z.cells.toList
      | none => failB
    | _ => failB
  | none => failB
theorem zeroT_info {t : TypeId} {z : Value} (h : zeroT P t = some z) : ∃ i, P.info? t = some i ∧ i.zero = some z := by
  unfold zeroT at h
  split at h
  · rename_i z' hz
    have := bif_some h
    cases this
    obtain ⟨i, h1, h2⟩ := Option.bind_eq_some_iff.1 hz
    exact ⟨i, h1, h2⟩
  · cases h
theorem buildS_ok {o : Oper} {t : TypeId} {ps : Array (Nat × Operand)} (ho : o.op = .build t ps) : BodyFlat I n P o (buildS I n P t ps) := fun call e en F k hr h => by
  unfold buildS at h
  split at h
  case h_2 => cases h
  rename_i z hz
  obtain ⟨it, hi, hiz⟩ := zeroT_info hz
  split at h
  · rename_i fields hu
    split at h
    case h_2 => cases h
    rename_i places hp
    obtain ⟨zl, h1, h2⟩ := readyL_ok h
    obtain ⟨r, h3, h4, h5⟩ := partsS_ok hr ps.toList (aggK k F) zl h2
    refine ⟨.aa r, fun ca H _ => ?_, h5⟩
    rw [h1] at h3
    unfold evOp
    simp only [ho]
    have hb : P.built t (ps.toList.map fun p => (p.1, rho en p.2)) = some (FV.vals r).toArray := by
      unfold Program.built
      simp only [hi, hu, hiz, hp]
      exact h3
    unfold buildA
    rw [hz, h4]
    simp only [hb, Option.map_some, FV.val]
  · rename_i m el hu
    split at h
    case h_2 => cases h
    rename_i ie he
    obtain ⟨zl, h1, h2⟩ := readyL_ok h
    obtain ⟨r, h3, h4, h5⟩ := partsS_ok hr ps.toList (aggK k F) zl h2
    refine ⟨.aa r, fun ca H _ => ?_, h5⟩
    rw [h1] at h3
    unfold evOp
    simp only [ho]
    have hb : P.built t (ps.toList.map fun p => (p.1, rho en p.2)) = some (FV.vals r).toArray := by
      unfold Program.built
      simp only [hi, hu, hiz, he]
      exact h3
    unfold buildA
    rw [hz, h4]
    simp only [hb, Option.map_some, FV.val]
  · cases h

/-! ### New rows -/
/-- Bytes packed. -/
noncomputable def pkB (ih : (Nat → Bool) → Bool) (k : Nat → Bool) (kd : IntKind) (b : Int) : Bool :=
  ifK (Int.rec (motive := fun _ => Bool) (fun b => ifK (ih fun x => natK k (Nat.add b (Nat.mul 256 x))) (Nat.ble b 255)) (fun _ => false) b) (decide (kd = .u8))
noncomputable def packF (l : List FV) : (Nat → Bool) → Bool := List.rec (motive := fun _ => (Nat → Bool) → Bool) (fun k => k 0) (fun v _ ih k => onInt (fun _ => false) (pkB ih k) false v) l
theorem packF_ok : ∀ {l : List FV} {k : Nat → Bool}, packF l k = true → ∃ x, (bytesL l.length x).map byteC = FV.vals l ∧ k x = true
  | [], k, h => ⟨0, rfl, h⟩
  | v :: r, k, h => by
    have h : onInt (fun _ => false) (pkB (packF r) k) false v = true := h
    rcases onInt_ok h with ⟨_, _, h⟩ | ⟨kd, b, hv, h⟩ | h
    · cases h
    · obtain ⟨h1, h2⟩ := ifK_ok h
      have h1 : kd = .u8 := of_decide_eq_true h1
      subst h1
      cases b with
      | negSucc => cases h2
      | ofNat b =>
        have h2 : ifK (packF r fun x => natK k (Nat.add b (Nat.mul 256 x))) (Nat.ble b 255) = true := h2
        obtain ⟨h3, h4⟩ := ifK_ok h2
        obtain ⟨x, h5, h6⟩ := packF_ok h4
        rw [natK_eq] at h6
        have h3 : b ≤ 255 := Nat.le_of_ble_eq_true h3
        refine ⟨Nat.add b (Nat.mul 256 x), ?_, h6⟩
        have e1 : (Nat.add b (Nat.mul 256 x)) / 256 = x := by show (b + 256 * x) / 256 = x; omega
        have e2 : (Nat.add b (Nat.mul 256 x)) % 256 = b := by show (b + 256 * x) % 256 = b; omega
        rw [List.length_cons, bytesL, List.map_cons, FV.vals, e1, h5, byteC_mod, e2, hv]
        rfl
    · cases h
noncomputable def isU8 (P : Program) (e : TypeId) : Bool := match P.underlying e with
  | some (.int .u8) => true
  | _ => false
noncomputable def rowNw (k : Nat → FH → Bool) (e : TypeId) (m : Nat) (F : FH) (q : Q FV) : Bool := newX k (.cl m q e 0 0) F
noncomputable def rowNy (k : Nat → FH → Bool) (e : TypeId) (m : Nat) (F : FH) (x : Nat) : Bool := newX k (.yy m x e 0 0) F
/-- A new row of these cells, just as long. -/
noncomputable def rowX (u8 : Bool) (k : Nat → FH → Bool) (e : TypeId) (F : FH) (l : List FV) : Bool := natK (fun m => Bool.rec (motive := fun _ => Bool) (layL (rowNw k e m F) l) (packF l (rowNy k e m F)) u8) (lenL l)
theorem rowX_ok {u8 : Bool} {k : Nat → FH → Bool} {e : TypeId} {F : FH} {H : AH} {l : List FV} {C : Array Value} (hH : HR F H) (hC : C.toList = FV.vals l) (h : rowX u8 k e F l = true) : ∃ F', HR F' (H.alloc (.cells C e) true) ∧ k H.next F' = true := by
  unfold rowX at h
  rw [natK_eq, lenL_eq] at h
  cases u8 with
  | false =>
    obtain ⟨q, h1, h2⟩ := layL_ok (show layL (rowNw k e l.length F) l = true from h)
    exact newX_ok hH (clR h1 hC rfl) h2
  | true =>
    obtain ⟨x, h1, h2⟩ := packF_ok (show packF l (rowNy k e l.length F) = true from h)
    refine newX_ok hH (O := .cells C e) ?_ h2
    show Obj.cells C e (0, 0) = Obj.cells _ e (0, 0)
    congr 1
    apply Array.ext'
    rw [hC, ← h1]
noncomputable def slcK (k : FV → FH → Bool) (n cap c : Nat) (F : FH) : Bool := k (.ll c 0 n cap) F
noncomputable def buildSlS (I : EnvI E) (n : Nat) (P : Program) (t : TypeId) (len : Nat) (ps : Array (Nat × Operand)) : BodyK E :=
  match elemT P t with
  | some e => match zeroT P e with
    | some z => match Nat.beq (len * szT P e) 0 with
      | true => match ps.toList with
        | [] => natR (fun len => ⟨fun _ k _ F => newX (slcK k len len) (.cl 0 Q.emp e 0 0) F⟩) len
        | _ => failB
      | false => Bool.rec (motive := fun _ => BodyK E) failB
          (natR (fun len => readyL (fun zl => PartK.rec (motive := fun _ => BodyK E) (fun p => Bool.rec (motive := fun _ => BodyK E) ⟨fun _ k t F => p (rowX false (slcK k len len) e F) t zl⟩ ⟨fun _ k t F => p (rowX true (slcK k len len) e F) t zl⟩ (isU8 P e))
            (partsS I n (fun i => some (i * szT P e, szT P e)) ps.toList)) ((Array.range (len * szT P e)).map (z.cells[· % z.cells.size]!)).toList) len)
          (Nat.ble (len * szT P e) (2 ^ 24) && !(Nat.beq z.cells.size 0))
    | none => failB
  | none => failB
theorem buildSlS_ok {o : Oper} {t : TypeId} {len : Nat} {ps : Array (Nat × Operand)} (ho : o.op = .buildSlice t len ps) : BodyOk I n P o (buildSlS I n P t len ps) := fun call ca e en F H k hc hr hH h => by
  unfold buildSlS at h
  split at h
  case h_2 => cases h
  rename_i el hel
  split at h
  case h_2 => cases h
  rename_i z hz
  split at h
  · rename_i h0
    have h0 := Nat.eq_of_beq_eq_true h0
    split at h
    case h_2 => cases h
    rename_i hps
    rw [natR_eq] at h
    obtain ⟨F', h5, h6⟩ := newX_ok (o := .cl 0 Q.emp el 0 0) hH (O := .cells #[] el (0, 0)) ⟨#[], rfl, rfl, fun i f hf => by cases hf⟩ h
    refine ⟨.ll H.next 0 len len, F', _, ?_, h5, h6⟩
    unfold evOp
    simp only [ho, hps, List.map_nil, buildSliceA, hel, hz, if_pos h0, List.isEmpty_nil, cond_true]
    rfl
  · rename_i h0
    have h0 := beq_ne h0
    cases hb : (Nat.ble (len * szT P el) (2 ^ 24) && !(Nat.beq z.cells.size 0)) with
    | false => rw [hb] at h; cases h
    | true =>
      rw [hb] at h
      have h := (natR_eq _ _ ▸ h : (readyL _ _).run call k e F = true)
      obtain ⟨zl, h1, h2⟩ := readyL_ok h
      have h3 : (partsS I n (fun i => some (i * szT P el, szT P el)) ps.toList).run (rowX (isU8 P el) (slcK k len len) el F) e zl = true := by
        revert h2
        generalize partsS I n (fun i => some (i * szT P el, szT P el)) ps.toList = pk
        cases pk
        cases isU8 P el <;> exact id
      obtain ⟨r, h4, h5, h6⟩ := partsS_ok hr ps.toList _ zl h3
      obtain ⟨F', h7, h8⟩ := rowX_ok hH (C := (FV.vals r).toArray) rfl h6
      refine ⟨.ll H.next 0 len len, F', _, ?_, h7, h8⟩
      rw [h1] at h4
      simp only [Bool.and_eq_true, Bool.not_eq_true'] at hb
      have hc : len * szT P el ≤ 2 ^ 24 ∧ z.cells.size ≠ 0 ∧ (ps.toList.map fun p => (p.1, rho en p.2)).all (fun p => p.2.cells.toList.all isCell) = true := ⟨Nat.le_of_ble_eq_true hb.1, beq_ne hb.2, h5⟩
      unfold evOp
      simp only [ho, buildSliceA, hel, hz, if_neg h0]
      rw [if_pos hc]
      have h4' : Instr.fill (fun i => some (i * szT P el, szT P el)) ((Array.range (len * szT P el)).map (z.cells[· % z.cells.size]!)) (ps.toList.map fun p => (p.1, rho en p.2)) = some (FV.vals r).toArray := by
        rw [← h4]
      rw [h4']
      rfl
end
end Go.Proofs.YtaadahhjdkkkaaaGreatDoor.Ev
