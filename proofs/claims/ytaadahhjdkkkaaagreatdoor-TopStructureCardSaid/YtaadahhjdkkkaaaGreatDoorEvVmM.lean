/-
  The machine: code and functions. What it says, the evaluator says.
-/
import Derived.Test.YtaadahhjdkkkaaaGreatDoorEvVmL
namespace Go.Proofs.YtaadahhjdkkkaaaGreatDoor.Ev
set_option linter.unusedVariables false
set_option linter.unusedSimpArgs false
open Go
structure CodeK (E : Type) where
  run : CallT → Nat → (E → FH → Bool) → (Nat → E → FH → Bool) → (E → FH → Bool) → E → FH → Bool
section
variable {E : Type} {I : EnvI E} {n : Nat} {P : Program} {F : FH} {H : AH}

noncomputable def blkX (id : Nat) (kn : E → FH → Bool) (kx : Nat → E → FH → Bool) (i : Nat) (t : E) (F : FH) : Bool := iteK (kx i t F) (kn t F) (Nat.beq i id)
noncomputable def loopK (f : CallT → Nat → (E → FH → Bool) → (Nat → E → FH → Bool) → (E → FH → Bool) → E → FH → Bool) (call : CallT) (N : Nat) (kx : Nat → E → FH → Bool) (kr : E → FH → Bool) (m : Nat) : E → FH → Bool :=
  Nat.rec (motive := fun _ => E → FH → Bool) (fun _ _ => false) (fun _ lp t F => f call N lp kx kr t F) m
/-- Of a function's regions: how each is done. -/
abbrev RT := List (Nat × RK)
noncomputable def rkOf (T : RT) (id : Nat) : RK := List.rec (motive := fun _ => RK) .sq (fun p _ ih => Bool.rec (motive := fun _ => RK) ih p.2 (Nat.beq p.1 id)) T
noncomputable def chkCode (P : Program) (ff : FuncId → Bool) (T : RT) : Code → Bool
  | .region id ops d => rkOk P ff ops d (rkOf T id)
  | .seq a b => chkCode P ff T a && chkCode P ff T b
  | .cond _ x y => chkCode P ff T x && chkCode P ff T y
  | .block _ c => chkCode P ff T c
  | .loop c => chkCode P ff T c
  | .scope c => chkCode P ff T c
  | _ => true
noncomputable def codeS (I : EnvI E) (n : Nat) (P : Program) (ff : FuncId → Bool) (T : RT) : Code → CodeK E
  | .skip => ⟨fun _ _ kn _ _ t F => kn t F⟩
  | .region id ops d => OpK.rec (motive := fun _ => CodeK E) (fun f => ⟨fun call _ kn _ _ t F => f call kn t F⟩) (regS I n P ff ops (rkOf T id))
  | .seq a b => CodeK.rec (motive := fun _ => CodeK E) (fun fa => CodeK.rec (motive := fun _ => CodeK E) (fun fb => ⟨fun call N kn kx kr t F => fa call N (fb call N kn kx kr) kx kr t F⟩) (codeS I n P ff T b)) (codeS I n P ff T a)
  | .cond c x y => GetK.rec (motive := fun _ => CodeK E) (fun g => CodeK.rec (motive := fun _ => CodeK E) (fun fx => CodeK.rec (motive := fun _ => CodeK E) (fun fy => ⟨fun call N kn kx kr t F => onB (iteK (fy call N kn kx kr t F) (fx call N kn kx kr t F)) false (g t)⟩) (codeS I n P ff T y)) (codeS I n P ff T x)) (opdS I n c)
  | .block id c => natR (fun id => CodeK.rec (motive := fun _ => CodeK E) (fun f => ⟨fun call N kn kx kr t F => f call N kn (blkX id kn kx) kr t F⟩) (codeS I n P ff T c)) id
  | .loop c => CodeK.rec (motive := fun _ => CodeK E) (fun f => ⟨fun call N kn kx kr t F => loopK f call N kx kr N t F⟩) (codeS I n P ff T c)
  | .exit id => natR (fun id => ⟨fun _ _ _ kx _ t F => kx id t F⟩) id
  | .ret => ⟨fun _ _ _ _ kr t F => kr t F⟩
  | .scope c => codeS I n P ff T c
  | _ => ⟨fun _ _ _ _ _ _ _ => false⟩
def StQ (kn : E → FH → Bool) (kx : Nat → E → FH → Bool) (kr : E → FH → Bool) (t : E) (F : FH) : St → Bool
  | .nx => kn t F
  | .ex i => kx i t F
  | .rt => kr t F
theorem codeS_ok {ff : FuncId → Bool} {T : RT} {call : CallT} {ca : CallA} {N : Nat} (hc : CallR call ca) (c : Code) : chkCode P ff T c = true → ∀ (kn : E → FH → Bool) (kx : Nat → E → FH → Bool) (kr : E → FH → Bool) (t : E) (e : List Value) (F : FH) (H : AH), REv I n t e → HR F H → (codeS I n P ff T c).run call N kn kx kr t F = true →
    ∃ st t' e' F' H', evCode P (evRegion P ff ca) N c e H = some (st, e', H') ∧ REv I n t' e' ∧ HR F' H' ∧ StQ kn kx kr t' F' st = true := by
  induction c with
  | skip => intro _ kn kx kr t e F H hr hH h; exact ⟨.nx, t, e, F, H, rfl, hr, hH, h⟩
  | region id ops d =>
    intro hT kn kx kr t e F H hr hH h
    obtain ⟨t', e', F', H', h1, h2, h3, h4⟩ := regS_ok (show rkOk P ff ops d (rkOf T id) = true from hT) hc hr hH (show (regS I n P ff ops (rkOf T id)).run call kn t F = true from h)
    exact ⟨.nx, t', e', F', H', by simp only [evCode, h1], h2, h3, h4⟩
  | seq a b iha ihb =>
    intro hT kn kx kr t e F H hr hH h
    have hT := Bool.and_eq_true_iff.1 (show (chkCode P ff T a && chkCode P ff T b) = true from hT)
    replace iha := iha hT.1
    replace ihb := ihb hT.2
    obtain ⟨st, t', e', F', H', h1, h2, h3, h4⟩ := iha ((codeS I n P ff T b).run call N kn kx kr) kx kr t e F H hr hH h
    cases st with
    | nx =>
      obtain ⟨st2, t2, e2, F2, H2, h5, h6, h7, h8⟩ := ihb kn kx kr t' e' F' H' h2 h3 h4
      exact ⟨st2, t2, e2, F2, H2, by simp only [evCode, h1, h5], h6, h7, h8⟩
    | ex i => exact ⟨.ex i, t', e', F', H', by simp only [evCode, h1], h2, h3, h4⟩
    | rt => exact ⟨.rt, t', e', F', H', by simp only [evCode, h1], h2, h3, h4⟩
  | cond c x y ihx ihy =>
    intro hT kn kx kr t e F H hr hH h
    have hT := Bool.and_eq_true_iff.1 (show (chkCode P ff T x && chkCode P ff T y) = true from hT)
    replace ihx := ihx hT.1
    replace ihy := ihy hT.2
    rcases onB_ok (show onB (iteK ((codeS I n P ff T y).run call N kn kx kr t F) ((codeS I n P ff T x).run call N kn kx kr t F)) false ((opdS I n c).run t) = true from h) with ⟨b, hb, g⟩ | g
    · have hv : rho e c = .bool b := by rw [← opdS_ok hr, hb]; rfl
      rcases iteK_ok g with ⟨rfl, g1⟩ | ⟨rfl, g1⟩
      · obtain ⟨st, t', e', F', H', h1, h2⟩ := ihy kn kx kr t e F H hr hH g1
        exact ⟨st, t', e', F', H', by simp only [evCode, hv, h1], h2⟩
      · obtain ⟨st, t', e', F', H', h1, h2⟩ := ihx kn kx kr t e F H hr hH g1
        exact ⟨st, t', e', F', H', by simp only [evCode, hv, h1], h2⟩
    · cases g
  | block id c ih =>
    intro hT kn kx kr t e F H hr hH h
    replace ih := ih hT
    unfold codeS at h
    rw [natR_eq] at h
    obtain ⟨st, t', e', F', H', h1, h2, h3, h4⟩ := ih kn (blkX id kn kx) kr t e F H hr hH h
    cases st with
    | nx => exact ⟨.nx, t', e', F', H', by simp only [evCode, h1], h2, h3, h4⟩
    | rt => exact ⟨.rt, t', e', F', H', by simp only [evCode, h1], h2, h3, h4⟩
    | ex i =>
      rcases iteK_ok (show iteK (kx i t' F') (kn t' F') (Nat.beq i id) = true from h4) with ⟨g1, g2⟩ | ⟨g1, g2⟩
      · have hne : ¬ i = id := fun e0 => by rw [e0, Nat.beq_refl] at g1; cases g1
        exact ⟨.ex i, t', e', F', H', by simp only [evCode, h1, if_neg hne], h2, h3, g2⟩
      · have he : i = id := Nat.eq_of_beq_eq_true g1
        exact ⟨.nx, t', e', F', H', by simp only [evCode, h1, if_pos he], h2, h3, g2⟩
  | loop c ih =>
    intro hT kn kx kr t e F H hr hH h
    replace ih := ih hT
    have key : ∀ (m : Nat) (t : E) (e : List Value) (F : FH) (H : AH), REv I n t e → HR F H → loopK (codeS I n P ff T c).run call N kx kr m t F = true → ∃ st t' e' F' H', loopA (evCode P (evRegion P ff ca) N c) m e H = some (st, e', H') ∧ REv I n t' e' ∧ HR F' H' ∧ StQ kn kx kr t' F' st = true := fun m => by
      induction m with
      | zero => intro t e F H _ _ h; cases h
      | succ m ihm =>
        intro t e F H hr hH h
        obtain ⟨st, t', e', F', H', h1, h2, h3, h4⟩ := ih (loopK (codeS I n P ff T c).run call N kx kr m) kx kr t e F H hr hH h
        cases st with
        | nx =>
          obtain ⟨st2, t2, e2, F2, H2, h5, h6, h7, h8⟩ := ihm t' e' F' H' h2 h3 h4
          exact ⟨st2, t2, e2, F2, H2, by simp only [loopA, h1, h5], h6, h7, h8⟩
        | ex i => exact ⟨.ex i, t', e', F', H', by simp only [loopA, h1], h2, h3, h4⟩
        | rt => exact ⟨.rt, t', e', F', H', by simp only [loopA, h1], h2, h3, h4⟩
    exact key N t e F H hr hH h
  | exit id =>
    intro hT kn kx kr t e F H hr hH h
    unfold codeS at h
    rw [natR_eq] at h
    exact ⟨.ex id, t, e, F, H, rfl, hr, hH, h⟩
  | ret => intro _ kn kx kr t e F H hr hH h; exact ⟨.rt, t, e, F, H, rfl, hr, hH, h⟩
  | scope c ih =>
    intro hT kn kx kr t e F H hr hH h
    replace ih := ih hT
    obtain ⟨st, t', e', F', H', h1, h2⟩ := ih kn kx kr t e F H hr hH h
    exact ⟨st, t', e', F', H', by simp only [evCode, h1], h2⟩
  | _ => intro _ kn kx kr t e F H hr hH h; simp only [codeS] at h; cases h

/-! ### Arguments -/
structure PutsK (E : Type) where
  run : (E → Bool) → List FV → E → Bool
noncomputable def putsS (I : EnvI E) (n : Nat) : Nat → Nat → PutsK E
  | 0, _ => ⟨fun k args t => List.rec (motive := fun _ => Bool) (k t) (fun _ _ _ => false) args⟩
  | m + 1, i => match Nat.blt i n with
    | true => PutK.rec (motive := fun _ => PutsK E) (fun p => PutsK.rec (motive := fun _ => PutsK E) (fun r => ⟨fun k args t => List.rec (motive := fun _ => Bool) (k t) (fun a rest _ => p (r k rest) a t) args⟩) (putsS I n m (i + 1))) (putS I n (some i))
    | false => ⟨fun k args t => List.rec (motive := fun _ => Bool) (k t) (fun _ _ _ => false) args⟩
theorem putsS_ok : ∀ (m i : Nat) (k : E → Bool) (args : List FV) (t : E) (e0 : List Value), e0.length = i → i ≤ n → REv I n t (e0 ++ List.replicate (n - i) undef) → (putsS I n m i).run k args t = true →
    ∃ t', (e0 ++ FV.vals args).length ≤ n ∧ REv I n t' (e0 ++ FV.vals args ++ List.replicate (n - (e0 ++ FV.vals args).length) undef) ∧ k t' = true
  | 0, i, k, args, t, e0, h0, hi, hr, h => by
    cases args with
    | nil => exact ⟨t, by simp [FV.vals, h0, hi], by simpa [FV.vals, h0] using hr, h⟩
    | cons => cases h
  | m + 1, i, k, args, t, e0, h0, hi, hr, h => by
    unfold putsS at h
    split at h
    · rename_i hb
      have hin : i < n := by simpa using hb
      cases args with
      | nil => exact ⟨t, by simp [FV.vals, h0, hi], by simpa [FV.vals, h0] using hr, h⟩
      | cons a rest =>
        obtain ⟨t1, h1, h2⟩ := putS_ok hr (show (putS I n (some i)).run ((putsS I n m (i + 1)).run k rest) a t = true from h)
        have e1 : putE (e0 ++ List.replicate (n - i) undef) (some i) a.val = (e0 ++ [a.val]) ++ List.replicate (n - (i + 1)) undef := by
          show (e0 ++ List.replicate (n - i) undef).set i a.val = _
          rw [List.set_append_right _ _ (by omega), h0, Nat.sub_self, show n - i = (n - (i + 1)) + 1 by omega, List.replicate_succ, List.set_cons_zero]
          simp
        rw [e1] at h2
        obtain ⟨t', h3, h4, h5⟩ := putsS_ok m (i + 1) k rest t1 (e0 ++ [a.val]) (by simp [h0]) hin h2 h1
        exact ⟨t', by simpa [FV.vals] using h3, by simpa [FV.vals] using h4, h5⟩
    · cases args with
      | nil => exact ⟨t, by simp [FV.vals, h0, hi], by simpa [FV.vals, h0] using hr, h⟩
      | cons => cases h

/-! ### Results -/
structure ResK (E : Type) where
  run : (List FV → FH → Bool) → E → FH → Bool
noncomputable def loadO (t : TypeId) (a : Tmp) : Oper := { dst := none, op := .load t (.tmp a), type := t, pos := "", after := #[], guard := none }
noncomputable def resS (I : EnvI E) (n : Nat) (P : Program) : List ResultVar → ResK E
  | [] => ⟨fun k _ F => k [] F⟩
  | .tmp i :: r => GetK.rec (motive := fun _ => ResK E) (fun g => ResK.rec (motive := fun _ => ResK E) (fun f => ⟨fun k t F => f (fun l F => k (g t :: l) F) t F⟩) (resS I n P r)) (opdS I n (.tmp i))
  | .cell a ty :: r => BodyK.rec (motive := fun _ => ResK E) (fun b => ResK.rec (motive := fun _ => ResK E) (fun f => ⟨fun k t F => b (fun _ _ _ _ => false) (fun v F => f (fun l F => k (v :: l) F) t F) t F⟩) (resS I n P r)) (loadS I n P ty (.tmp a))
theorem resS_ok : ∀ (l : List ResultVar) (k : List FV → FH → Bool) (t : E) (e : List Value) (F : FH) (H : AH), REv I n t e → HR F H → (resS I n P l).run k t F = true → ∃ vs F', l.mapM (resA P e H) = some (FV.vals vs) ∧ HR F' H ∧ k vs F' = true
  | [], k, t, e, F, H, hr, hH, h => ⟨[], F, rfl, hH, h⟩
  | .tmp i :: r, k, t, e, F, H, hr, hH, h => by
    obtain ⟨vs, F', h1, h2, h3⟩ := resS_ok r _ t e F H hr hH (show (resS I n P r).run (fun l F => k ((opdS I n (.tmp i)).run t :: l) F) t F = true from h)
    refine ⟨_, F', ?_, h2, h3⟩
    have e1 : resA P e H (.tmp i) = some ((opdS I n (.tmp i)).run t).val := by rw [opdS_ok hr]; rfl
    rw [List.mapM_cons, e1, h1]; rfl
  | .cell a ty :: r, k, t, e, F, H, hr, hH, h => by
    have hb : (loadS I n P ty (.tmp a)).run (fun _ _ _ _ => false) (fun v F => (resS I n P r).run (fun l F => k (v :: l) F) t F) t F = true := h
    obtain ⟨v, F1, H1, g1, g2, g3⟩ := loadS_ok (o := loadO ty a) rfl (fun _ _ _ _ => false) (fun _ _ _ => none) t e F H _ (fun f args k F H _ h => by cases h) hr hH hb
    have g4 : H1 = H ∧ resA P e H (.cell a ty) = some v.val := by
      unfold evOp at g1
      simp only [loadO] at g1
      simp only [resA]
      have e2 : rho e (.tmp a) = e.getD a undef := rfl
      rw [e2] at g1
      split at g1
      · rename_i p hp
        try rw [hp]
        cases hl : loadA P H ty p with
        | none => rw [hl] at g1; cases g1
        | some w => rw [hl] at g1; cases g1; exact ⟨rfl, rfl⟩
      · cases g1
    obtain ⟨rfl, g5⟩ := g4
    obtain ⟨vs, F', h1, h2, h3⟩ := resS_ok r _ t e F1 H1 hr g2 g3
    refine ⟨_, F', ?_, h2, h3⟩
    rw [List.mapM_cons, g5, h1]; rfl
noncomputable def allNT (k : Bool) (l : List FV) : Bool := List.rec (motive := fun _ => Bool) k (fun v _ ih => ifK ih (noTF v)) l
theorem allNT_ok {k : Bool} : ∀ {l : List FV}, allNT k l = true → (FV.vals l).all noTuple = true ∧ k = true
  | [], h => ⟨rfl, h⟩
  | v :: r, h => by
    obtain ⟨h1, h2⟩ := ifK_ok (show ifK (allNT k r) (noTF v) = true from h)
    obtain ⟨h3, h4⟩ := allNT_ok h2
    exact ⟨by rw [FV.vals, List.all_cons, noTF_ok h1, h3]; rfl, h4⟩
noncomputable def finR (k : FV → FH → Bool) (l : List FV) (F : FH) : Bool := List.rec (motive := fun _ => Bool) (k (.tt []) F) (fun v r _ => List.rec (motive := fun _ => Bool) (k v F) (fun _ _ _ => allNT (k (.tt l) F) l) r) l
theorem finR_ok {k : FV → FH → Bool} {l : List FV} (h : finR k l F = true) : ∃ v : FV, (match (some (FV.vals l) : Option (List Value)) with
    | some [v] => some v
    | some vs => bif vs.all noTuple then some (Value.tuple vs.toArray) else none
    | none => none) = some v.val ∧ k v F = true := by
  cases l with
  | nil => exact ⟨.tt [], rfl, h⟩
  | cons v r =>
    cases r with
    | nil => exact ⟨v, rfl, h⟩
    | cons w r =>
      obtain ⟨h1, h2⟩ := allNT_ok (show allNT (k (.tt (v :: w :: r)) F) (v :: w :: r) = true from h)
      refine ⟨.tt (v :: w :: r), ?_, h2⟩
      simp only [FV.vals] at h1 ⊢
      rw [h1]; rfl
end

/-! ### Functions -/
structure FnK where
  run : CallT → Nat → List FV → (FV → FH → Bool) → FH → Bool
def failF : FnK := ⟨fun _ _ _ _ _ => false⟩
noncomputable def codeF {E : Type} (I : EnvI E) (P : Program) (ff : FuncId → Bool) (T : RT) (fn : Func) (c : Code) : FnK :=
  CodeK.rec (motive := fun _ => FnK) (fun f => ResK.rec (motive := fun _ => FnK) (fun rs => PutsK.rec (motive := fun _ => FnK) (fun ps =>
    ⟨fun call N args k F => ps (fun t => f call N (fun t F => rs (finR k) t F) (fun _ _ _ => false) (fun t F => rs (finR k) t F) t F) args I.ini⟩) (putsS I fn.ntmps 24 0)) (resS I fn.ntmps P fn.results.toList)) (codeS I fn.ntmps P ff T c)
/-- A function told of by hand, as the machine has it. -/
def FPrimOk (pf : FnK) (g : PrimF) : Prop := ∀ (call : CallT) (ca : CallA) (N : Nat) (args : List FV) (k : FV → FH → Bool) (F : FH) (H : AH), CallR call ca → HR F H → pf.run call N args k F = true → ∃ v F' H', g ca (FV.vals args) H = some (FV.val v, H') ∧ HR F' H' ∧ k v F' = true
/-- The functions that may be called, with how their regions are done. -/
abbrev FT := List (Nat × RT)
noncomputable def ftOf (t : FT) (f : Nat) : Option RT := List.rec (motive := fun _ => Option RT) none (fun p _ ih => Bool.rec (motive := fun _ => Option RT) ih (some p.2) (Nat.beq p.1 f)) t
noncomputable def chkFn (P : Program) (ff : FuncId → Bool) (f : Nat) (T : RT) : Bool := match P.funcs[f]? with
  | some fn => match fn.body with
    | some c => chkCode P ff T c
    | none => true
  | none => true
noncomputable def fnS (P : Program) (prims : Prims) (fp : FuncId → FnK) (tab : FT) (f : FuncId) : FnK :=
  match prims.run f with
  | some _ => fp f
  | none => match ftOf tab f with
    | some T => match P.funcs[f]? with
      | some fn => match fn.body with
        | some c => match Nat.ble fn.ntmps 64 with
          | true => codeF env2 P prims.flat T fn c
          | false => match Nat.ble fn.ntmps 512 with
            | true => codeF env3 P prims.flat T fn c
            | false => match Nat.ble fn.ntmps 4096 with
              | true => codeF env4 P prims.flat T fn c
              | false => failF
        | none => failF
      | none => failF
    | none => failF
noncomputable def vmFn (P : Program) (prims : Prims) (fp : FuncId → FnK) (tab : FT) (N : Nat) : CallT :=
  Nat.rec (motive := fun _ => CallT) (fun _ _ _ _ => false) (fun N ih f args k F => FnK.rec (motive := fun _ => Bool) (fun run => run ih N args k F) (fnS P prims fp tab f)) N
theorem codeF_ok {E : Type} {I : EnvI E} {P : Program} {ff : FuncId → Bool} {T : RT} {fn : Func} {c : Code} {call : CallT} {ca : CallA} {N : Nat} {args : List FV} {k : FV → FH → Bool} {F : FH} {H : AH} (hT : chkCode P ff T c = true) (hn : fn.ntmps ≤ I.size) (hc : CallR call ca) (hH : HR F H) (h : (codeF I P ff T fn c).run call N args k F = true) :
    ∃ v F' H', (match evCode P (evRegion P ff ca) N c (FV.vals args ++ List.replicate (fn.ntmps - (FV.vals args).length) undef) H with
      | some (.nx, e, H') | some (.rt, e, H') => (resultsA P e H' fn.results.toList).map (·, H')
      | _ => none) = some (FV.val v, H') ∧ HR F' H' ∧ k v F' = true := by
  have h : (putsS I fn.ntmps 24 0).run (fun t => (codeS I fn.ntmps P ff T c).run call N (fun t F => (resS I fn.ntmps P fn.results.toList).run (finR k) t F) (fun _ _ _ => false) (fun t F => (resS I fn.ntmps P fn.results.toList).run (finR k) t F) t F) args I.ini = true := h
  have hini : REv I fn.ntmps I.ini ([] ++ List.replicate (fn.ntmps - 0) undef) := ⟨by simp, hn, fun i hi => by
    rw [I.ini_ok i (Nat.lt_of_lt_of_le hi hn)]
    simp only [List.nil_append, Nat.sub_zero]
    rw [List.getElem?_replicate, if_pos hi]; rfl⟩
  obtain ⟨t, h1, h2, h3⟩ := putsS_ok 24 0 _ args I.ini [] rfl (Nat.zero_le _) hini h
  simp only [List.nil_append] at h1 h2
  obtain ⟨st, t', e', F', H', h4, h5, h6, h7⟩ := codeS_ok hc c hT _ _ _ t _ F H h2 hH h3
  have fin : (resS I fn.ntmps P fn.results.toList).run (finR k) t' F' = true → ∃ v F2, resultsA P e' H' fn.results.toList = some (FV.val v) ∧ HR F2 H' ∧ k v F2 = true := fun h8 => by
    obtain ⟨vs, F2, h9, h10, h11⟩ := resS_ok _ _ _ _ _ _ h5 h6 h8
    obtain ⟨v, h12, h13⟩ := finR_ok h11
    refine ⟨v, F2, ?_, h10, h13⟩
    unfold resultsA
    rw [h9]
    exact h12
  cases st with
  | nx =>
    obtain ⟨v, F2, h8, h9, h10⟩ := fin h7
    exact ⟨v, F2, H', by rw [h4]; simp only [h8, Option.map_some], h9, h10⟩
  | rt =>
    obtain ⟨v, F2, h8, h9, h10⟩ := fin h7
    exact ⟨v, F2, H', by rw [h4]; simp only [h8, Option.map_some], h9, h10⟩
  | ex i => cases h7
/-- The table says how it is. -/
def TabOk (P : Program) (ff : FuncId → Bool) (tab : FT) : Prop := ∀ f T, ftOf tab f = some T → chkFn P ff f T = true
theorem tabOk_all {P : Program} {ff : FuncId → Bool} : ∀ {tab : FT}, (∀ p, p ∈ tab → chkFn P ff p.1 p.2 = true) → TabOk P ff tab
  | [], _, f, T, h => by cases h
  | p :: r, ha, f, T, h => by
    have h : (Bool.rec (motive := fun _ => Option RT) (ftOf r f) (some p.2) (Nat.beq p.1 f) : Option RT) = some T := h
    cases hb : Nat.beq p.1 f with
    | true =>
      rw [hb] at h
      have h : some p.2 = some T := h
      cases h
      have := ha p List.mem_cons_self
      rwa [Nat.eq_of_beq_eq_true hb] at this
    | false =>
      rw [hb] at h
      exact tabOk_all (fun q hq => ha q (List.mem_cons_of_mem _ hq)) f T h
theorem vmFn_ok {P : Program} {prims : Prims} {fp : FuncId → FnK} {tab : FT} (hp : ∀ f g, prims.run f = some g → FPrimOk (fp f) g) (ht : TabOk P prims.flat tab) : ∀ N, CallR (vmFn P prims fp tab N) (evFn P prims N) := by
  intro N
  induction N with
  | zero => intro f args k F H hH h; cases h
  | succ N ih =>
    intro f args k F H hH h
    have h : (fnS P prims fp tab f).run (vmFn P prims fp tab N) N args k F = true := h
    unfold fnS at h
    unfold evFn
    split at h
    · rename_i g hg
      obtain ⟨v, F', H', h1, h2, h3⟩ := hp f g hg _ _ N args k F H ih hH h
      exact ⟨v, F', H', by simp only [hg]; exact h1, h2, h3⟩
    · rename_i hg
      split at h
      case h_2 => cases h
      rename_i T hT
      split at h
      case h_2 => cases h
      rename_i fn hf
      split at h
      case h_2 => cases h
      rename_i c hb
      have hT2 : chkCode P prims.flat T c = true := by
        have := ht f T hT
        unfold chkFn at this
        rw [hf] at this
        simp only [hb] at this
        exact this
      simp only [hg, hf, hb]
      split at h
      · rename_i hle
        exact codeF_ok hT2 (show fn.ntmps ≤ env2.size from Nat.le_of_ble_eq_true hle) ih hH h
      · split at h
        · rename_i hle
          exact codeF_ok hT2 (show fn.ntmps ≤ env3.size from Nat.le_of_ble_eq_true hle) ih hH h
        · split at h
          · rename_i hle
            exact codeF_ok hT2 (show fn.ntmps ≤ env4.size from Nat.le_of_ble_eq_true hle) ih hH h
          · cases h
def emptyF : FH := ⟨Q.emp, 0, 0⟩
theorem empty_R : HR emptyF AH.empty := ⟨WfH.empty, rfl, rfl, fun c fb h => by cases h⟩
noncomputable def isT (v : FV) (_ : FH) : Bool := onB (fun b => b) false v
/-- A closed run, reckoned by the machine. -/
theorem run_of_vm {P : Program} {prims : Prims} {fp : FuncId → FnK} {tab : FT} {N : Nat} {f : FuncId} (hp : ∀ f g, prims.run f = some g → FPrimOk (fp f) g) (ht : TabOk P prims.flat tab) (h : vmFn P prims fp tab N f [] isT emptyF = true) : (evFn P prims N f [] AH.empty).map Prod.fst = some (.bool true) := by
  obtain ⟨v, F', H', h1, _, h2⟩ := vmFn_ok hp ht N f [] isT emptyF AH.empty empty_R h
  have h1 : evFn P prims N f [] AH.empty = some (v.val, H') := h1
  rw [h1]
  rcases onB_ok (show onB (fun b => b) false v = true from h2) with ⟨b, rfl, h3⟩ | h3
  · have h3 : b = true := h3
    subst h3; rfl
  · cases h3
end Go.Proofs.YtaadahhjdkkkaaaGreatDoor.Ev
