/-
  The machine: regions, code, functions. What it says, the evaluator says.
-/
import Derived.Test.YtaadahhjdkkkaaaGreatDoorEvVmK
import Derived.Test.YtaadahhjdkkkaaaGreatDoorEvUp
namespace Go.Proofs.YtaadahhjdkkkaaaGreatDoor.Ev
set_option linter.unusedVariables false
set_option linter.unusedSimpArgs false
open Go
structure OpK (E : Type) where
  run : CallT → (E → FH → Bool) → E → FH → Bool
section
variable {E : Type} {I : EnvI E} {n : Nat} {P : Program} {F : FH} {H : AH}

/-! ### Operations one behind the other -/
noncomputable def opS (I : EnvI E) (n : Nat) (P : Program) (o : Oper) : OpK E :=
  BodyK.rec (motive := fun _ => OpK E) (fun b => PutK.rec (motive := fun _ => OpK E) (fun pd => ⟨fun call k t F => b call (fun v F => pd (fun t => k t F) v t) t F⟩) (putS I n o.dst)) (bodyS I n P o)
theorem opS_ok {o : Oper} {call : CallT} {ca : CallA} {k : E → FH → Bool} {t : E} {e : List Value} (hc : CallR call ca) (hr : REv I n t e) (hH : HR F H) (h : (opS I n P o).run call k t F = true) :
    ∃ v H' t' F', evOp P ca o (rho e) H = some (v, H') ∧ REv I n t' (putE e o.dst v) ∧ HR F' H' ∧ k t' F' = true := by
  have h : (bodyS I n P o).run call (fun v F => (putS I n o.dst).run (fun t => k t F) v t) t F = true := h
  obtain ⟨v, F', H', h1, h2, h3⟩ := bodyS_ok o call ca t e F H _ hc hr hH h
  obtain ⟨t', h4, h5⟩ := putS_ok hr h3
  exact ⟨_, H', t', F', h1, h5, h2, h4⟩
noncomputable def emT (y : Bool) (v : Value) : Bool := match v with
  | .tuple vs => ifK y vs.toList.isEmpty
  | _ => false
noncomputable def gd1 (x y : Bool) (want b : Bool) : Bool := Bool.rec (motive := fun _ => Bool) (iteK x y want) (iteK y x want) b
noncomputable def gdK (x y : Bool) (want : Bool) (v : FV) : Bool := onB (gd1 x y want) (emT y v.val) v
theorem gdK_ok {x y want : Bool} {v : FV} (h : gdK x y want v = true) : (∃ b, v.val = .bool b ∧ ((b == want) = true ∧ x = true ∨ (b == want) = false ∧ y = true)) ∨ (v.val = .tuple #[] ∧ y = true) := by
  rcases onB_ok h with ⟨b, rfl, h⟩ | h
  · refine .inl ⟨b, rfl, ?_⟩
    cases b <;> cases want
    · exact .inl ⟨rfl, h⟩
    · exact .inr ⟨rfl, h⟩
    · exact .inr ⟨rfl, h⟩
    · exact .inl ⟨rfl, h⟩
  · unfold emT at h
    split at h
    case h_2 => cases h
    rename_i vs hv
    obtain ⟨h1, h2⟩ := ifK_ok h
    have : vs = #[] := by apply Array.ext'; simpa using h1
    exact .inr ⟨by rw [hv, this], h2⟩
noncomputable def gopS (I : EnvI E) (n : Nat) (P : Program) (ops : Array Oper) (o : Oper) : OpK E := match o.guard with
  | none => opS I n P o
  | some (j, want) => match (ops[j]?).bind (·.dst) with
    | some d => Bool.rec (motive := fun _ => OpK E) ⟨fun _ _ _ _ => false⟩ (GetK.rec (motive := fun _ => OpK E) (fun g => OpK.rec (motive := fun _ => OpK E) (fun ob => PutK.rec (motive := fun _ => OpK E) (fun pd => ⟨fun call k t F => gdK (ob call k t F) (pd (fun t => k t F) undefF t) want (g t)⟩) (putS I n o.dst)) (opS I n P o)) (opdS I n (.tmp d))) (Nat.blt d n)
    | none => ⟨fun _ _ _ _ => false⟩
noncomputable def regL (I : EnvI E) (n : Nat) (P : Program) (ops : Array Oper) (l : List Oper) : OpK E :=
  List.rec (motive := fun _ => OpK E) ⟨fun _ k t F => k t F⟩ (fun o r ih => OpK.rec (motive := fun _ => OpK E) (fun f => List.rec (motive := fun _ => OpK E) ⟨f⟩ (fun _ _ _ => OpK.rec (motive := fun _ => OpK E) (fun fr => ⟨fun call k t F => f call (fr call k) t F⟩) ih) r) (gopS I n P ops o)) l
theorem regL_cons (ops : Array Oper) (o : Oper) (r : List Oper) (call : CallT) (k : E → FH → Bool) (t : E) (F : FH) : (regL I n P ops (o :: r)).run call k t F = (gopS I n P ops o).run call ((regL I n P ops r).run call k) t F := by
  cases r with
  | nil => rfl
  | cons p r => rfl
theorem regL_ok {ops : Array Oper} {call : CallT} {ca : CallA} {k : E → FH → Bool} (hc : CallR call ca) : ∀ (l : List Oper) (t : E) (e : List Value) (F : FH) (H : AH), REv I n t e → HR F H → (regL I n P ops l).run call k t F = true →
    ∃ t' e' F' H', evOps P ca ops l e H = some (e', H') ∧ REv I n t' e' ∧ HR F' H' ∧ k t' F' = true
  | [], t, e, F, H, hr, hH, h => ⟨t, e, F, H, rfl, hr, hH, h⟩
  | o :: r, t, e, F, H, hr, hH, h => by
    rw [regL_cons] at h
    unfold gopS at h
    split at h
    · rename_i hg
      obtain ⟨v, H', t', F', h1, h2, h3, h4⟩ := opS_ok hc hr hH h
      obtain ⟨t2, e2, F2, H2, h5, h6, h7, h8⟩ := regL_ok hc r t' _ F' H' h2 h3 h4
      refine ⟨t2, e2, F2, H2, ?_, h6, h7, h8⟩
      have hgd : guardA ops o e = some true := by unfold guardA; rw [hg]
      simp only [evOps, hgd, h1]; exact h5
    · rename_i j want hg
      split at h
      case h_2 => cases h
      rename_i d hd
      cases hdn : Nat.blt d n with
      | false => rw [hdn] at h; cases h
      | true =>
        rw [hdn] at h
        have h : gdK ((opS I n P o).run call ((regL I n P ops r).run call k) t F) ((putS I n o.dst).run (fun t => (regL I n P ops r).run call k t F) undefF t) want ((opdS I n (.tmp d)).run t) = true := h
        have hdl : d < n := by simpa using hdn
        have hed : e[d]? = some ((opdS I n (.tmp d)).run t).val := by
          rw [opdS_ok hr]
          show e[d]? = some (e.getD d undef)
          rw [List.getD_eq_getElem?_getD, hr.at_ d hdl]; rfl
        have hgu : guardA ops o e = match some ((opdS I n (.tmp d)).run t).val with
            | some (.bool b) => some (b == want)
            | some (.tuple vs) => bif vs.isEmpty then some false else none
            | _ => none := by
          unfold guardA
          rw [hg]
          simp only [hd, Option.bind_some, hed]
          rfl
        have skip : guardA ops o e = some false → (putS I n o.dst).run (fun t => (regL I n P ops r).run call k t F) undefF t = true → ∃ t' e' F' H', evOps P ca ops (o :: r) e H = some (e', H') ∧ REv I n t' e' ∧ HR F' H' ∧ k t' F' = true := fun hgf h4 => by
          obtain ⟨t', h5, h6⟩ := putS_ok hr h4
          obtain ⟨t2, e2, F2, H2, h7, h8, h9, h10⟩ := regL_ok hc r t' _ F H h6 hH h5
          refine ⟨t2, e2, F2, H2, ?_, h8, h9, h10⟩
          simp only [evOps, hgf]; exact h7
        rcases gdK_ok h with ⟨b, hv, h1⟩ | ⟨hv, h1⟩
        · rw [hv] at hgu
          rcases h1 with ⟨hb, h2⟩ | ⟨hb, h2⟩
          · have hgt : guardA ops o e = some true := by rw [hgu]; simp [hb]
            obtain ⟨v, H', t', F', h3, h4, h5, h6⟩ := opS_ok hc hr hH h2
            obtain ⟨t2, e2, F2, H2, h7, h8, h9, h10⟩ := regL_ok hc r t' _ F' H' h4 h5 h6
            refine ⟨t2, e2, F2, H2, ?_, h8, h9, h10⟩
            simp only [evOps, hgt, h3]; exact h7
          · exact skip (by rw [hgu]; simp [hb]) h2
        · rw [hv] at hgu
          exact skip (by rw [hgu]; rfl) h1

/-! ### Loads that stay as they are -/
noncomputable def verB (k : Nat → Bool) (fb : FBlk) : Bool := FBlk.rec (motive := fun _ => Bool) (fun _ ver => k ver) (fun _ _ ver _ _ => k ver) fb
noncomputable def verK (k : Nat → Bool) (F : FH) (c : Nat) : Bool := FH.rec (motive := fun _ => Bool) (fun t _ _ => Q.getK (verB k) t c) F
theorem verK_ok {k : Nat → Bool} {c : Nat} (hH : HR F H) (h : verK k F c = true) : ∃ b, H.blk c = some b ∧ k b.ver = true := by
  obtain ⟨fb, h1, h2⟩ := Q.getK_ok (show Q.getK (verB k) F.t c = true from h)
  obtain ⟨b, hb, hB⟩ := hH.blk c fb h1
  refine ⟨b, hb, ?_⟩
  cases fb with
  | xx o ver => rw [hB.2.1]; exact h2
  | gg o root ver hd fl => rw [hB.2.2.1]; exact h2
noncomputable def still1 (F F' : FH) (kk : Bool) (c : Nat) : Bool := verK (fun v => verK (fun v' => ifK (objK (fun _ => kk) F' c) (Nat.beq v' v)) F' c) F c
theorem still1_ok {F' : FH} {H' : AH} {c : Nat} {kk : Bool} (hH : HR F H) (hH' : HR F' H') (h : still1 F F' kk c = true) : (∃ b b', H.blk c = some b ∧ H'.blk c = some b' ∧ Nat.beq b'.ver b.ver = true ∧ H'.live c b' = true) ∧ kk = true := by
  obtain ⟨b, hb, h1⟩ := verK_ok hH h
  obtain ⟨b', hb', h2⟩ := verK_ok hH' h1
  obtain ⟨h3, h4⟩ := ifK_ok h2
  obtain ⟨o, b2, hb2, hl, _, h5⟩ := objK_ok hH' h4
  rw [hb'] at hb2; cases hb2
  exact ⟨⟨b, b', hb, hb', h3, hl⟩, h5⟩
noncomputable def noAddr (kk : Bool) (v : Value) : Bool := match v with
  | .pointer (some _) => false
  | .map (some _) => false
  | .slice (some _) _ _ => false
  | _ => kk
/-- Where a value points nothing has been written. -/
noncomputable def stillV (F F' : FH) (kk : Bool) (v : FV) : Bool := FV.rec (motive_1 := fun _ => Bool) (motive_2 := fun _ => Bool) (fun _ => kk) (fun _ _ => kk) (fun _ => kk) (fun _ _ => kk) (fun c _ => still1 F F' kk c) (fun _ _ _ _ => kk) (fun c => still1 F F' kk c) (fun _ _ => kk) (fun _ _ => kk) (fun _ _ _ => kk) (fun _ _ _ => kk) (fun v => noAddr kk v) false (fun _ _ _ _ => false) v
theorem stillV_ok {F' : FH} {H' : AH} {v : FV} {kk : Bool} (hH : HR F H) (hH' : HR F' H') (h : stillV F F' kk v = true) : stillB H H' v.val = true ∧ kk = true := by
  cases v with
  | pp c o =>
    obtain ⟨⟨b, b', h1, h2, h3, h4⟩, h5⟩ := still1_ok hH hH' (show still1 F F' kk c = true from h)
    exact ⟨by simp only [FV.val, stillB, h1, h2, h3, h4]; rfl, h5⟩
  | mm c =>
    obtain ⟨⟨b, b', h1, h2, h3, h4⟩, h5⟩ := still1_ok hH hH' (show still1 F F' kk c = true from h)
    exact ⟨by simp only [FV.val, stillB, h1, h2, h3, h4]; rfl, h5⟩
  | oo v =>
    have h : noAddr kk v = true := h
    unfold noAddr at h
    split at h
    · cases h
    · cases h
    · cases h
    · rename_i h1 h2 h3
      refine ⟨?_, h⟩
      show stillB H H' v = true
      unfold stillB
      split
      · rename_i a; exact (h1 a rfl).elim
      · rename_i r; exact (h2 r rfl).elim
      · rfl
  | _ => exact ⟨rfl, h⟩
structure StK (E : Type) where
  run : FH → FH → E → Bool → Bool
noncomputable def loadsS (I : EnvI E) (n : Nat) (l : List Oper) : StK E :=
  List.rec (motive := fun _ => StK E) ⟨fun _ _ _ kk => kk⟩ (fun o _ ih => match o.op with
    | .load _ x => GetK.rec (motive := fun _ => StK E) (fun g => StK.rec (motive := fun _ => StK E) (fun f => ⟨fun F F' t kk => stillV F F' (f F F' t kk) (g t)⟩) ih) (opdS I n x)
    | _ => ih) l
theorem loadsS_ok {F' : FH} {H' : AH} {t : E} {e : List Value} {kk : Bool} (hr : REv I n t e) (hH : HR F H) (hH' : HR F' H') : ∀ l : List Oper, (loadsS I n l).run F F' t kk = true → (l.all fun o => match o.op with | .load _ x => stillB H H' (rho e x) | _ => true) = true ∧ kk = true
  | [], h => ⟨rfl, h⟩
  | o :: r, h => by
    have e0 : loadsS I n (o :: r) = match o.op with
      | .load _ x => GetK.rec (motive := fun _ => StK E) (fun g => StK.rec (motive := fun _ => StK E) (fun f => ⟨fun F F' t kk => stillV F F' (f F F' t kk) (g t)⟩) (loadsS I n r)) (opdS I n x)
      | _ => loadsS I n r := rfl
    rw [e0] at h
    rw [List.all_cons]
    split at h
    · rename_i ty x ho
      obtain ⟨h1, h2⟩ := stillV_ok hH hH' (show stillV F F' ((loadsS I n r).run F F' t kk) ((opdS I n x).run t) = true from h)
      obtain ⟨h3, h4⟩ := loadsS_ok hr hH hH' r h2
      rw [opdS_ok hr] at h1
      exact ⟨by simp only [h1, h3, Bool.and_self], h4⟩
    · rename_i hno
      obtain ⟨h3, h4⟩ := loadsS_ok hr hH hH' r h
      refine ⟨?_, h4⟩
      rw [h3, Bool.and_true]

/-! ### Regions gone through with all that lies between -/
structure TrK (E : Type) where
  run : CallT → (List (E × FH) → Bool) → E → FH → Bool
noncomputable def trL (I : EnvI E) (n : Nat) (P : Program) (ops : Array Oper) (l : List Oper) : TrK E :=
  List.rec (motive := fun _ => TrK E) ⟨fun _ k t F => k [(t, F)]⟩ (fun o _ ih => OpK.rec (motive := fun _ => TrK E) (fun f => TrK.rec (motive := fun _ => TrK E) (fun fr => ⟨fun call k t F => f call (fr call (fun s => k ((t, F) :: s))) t F⟩) ih) (gopS I n P ops o)) l
/-- The states stand for those of the evaluator. -/
def TrR (I : EnvI E) (n : Nat) : List (E × FH) → List (List Value × AH) → Prop
  | [], [] => True
  | x :: r, y :: s => (REv I n x.1 y.1 ∧ HR x.2 y.2) ∧ TrR I n r s
  | _, _ => False
theorem TrR.get : ∀ {s : List (E × FH)} {s' : List (List Value × AH)}, TrR I n s s' → ∀ (i : Nat) x, s[i]? = some x → ∃ y, s'[i]? = some y ∧ REv I n x.1 y.1 ∧ HR x.2 y.2
  | [], [], _, i, x, hx => by simp at hx
  | [], _ :: _, h, _, _, _ => h.elim
  | _ :: _, [], h, _, _, _ => h.elim
  | a :: r, b :: s, h, 0, x, hx => by simp at hx; subst hx; exact ⟨b, rfl, h.1⟩
  | a :: r, b :: s, h, i + 1, x, hx => by
    obtain ⟨y, h1, h2⟩ := TrR.get h.2 i x (by simpa using hx)
    exact ⟨y, by simpa using h1, h2⟩
theorem trL_ok {ops : Array Oper} {call : CallT} {ca : CallA} (hc : CallR call ca) : ∀ (l : List Oper) (k : List (E × FH) → Bool) (t : E) (e : List Value) (F : FH) (H : AH), REv I n t e → HR F H → (trL I n P ops l).run call k t F = true →
    ∃ s s' e' H', evOps P ca ops l e H = some (e', H') ∧ evTr P ca ops l e H = some s' ∧ TrR I n s s' ∧ s'.getLast? = some (e', H') ∧ k s = true
  | [], k, t, e, F, H, hr, hH, h => ⟨[(t, F)], [(e, H)], e, H, rfl, rfl, ⟨⟨hr, hH⟩, trivial⟩, rfl, h⟩
  | o :: r, k, t, e, F, H, hr, hH, h => by
    have h : (gopS I n P ops o).run call ((trL I n P ops r).run call (fun s => k ((t, F) :: s))) t F = true := h
    -- the operation alone, as a list of one
    have h1 : (regL I n P ops [o]).run call ((trL I n P ops r).run call (fun s => k ((t, F) :: s))) t F = true := h
    obtain ⟨t', e1, F', H1, h2, h3, h4, h5⟩ := regL_ok hc [o] t e F H hr hH h1
    obtain ⟨s, s', e', H', h6, h7, h8, h9, h10⟩ := trL_ok hc r _ t' e1 F' H1 h3 h4 h5
    have hne : s' ≠ [] := fun e0 => by rw [e0] at h9; cases h9
    have hlast : ((e, H) :: s').getLast? = some (e', H') := by
      cases s' with
      | nil => exact absurd rfl hne
      | cons a b => simpa using h9
    simp only [evOps] at h2
    refine ⟨(t, F) :: s, (e, H) :: s', e', H', ?_, ?_, ⟨⟨hr, hH⟩, h8⟩, hlast, h10⟩
    · simp only [evOps]
      split at h2
      · split at h2
        · rename_i hv; simp only [Option.some.injEq, Prod.mk.injEq] at h2; obtain ⟨rfl, rfl⟩ := h2; exact h6
        · cases h2
      · simp only [Option.some.injEq, Prod.mk.injEq] at h2; obtain ⟨rfl, rfl⟩ := h2; exact h6
      · cases h2
    · simp only [evTr]
      split at h2
      · split at h2
        · rename_i hv; simp only [Option.some.injEq, Prod.mk.injEq] at h2; obtain ⟨rfl, rfl⟩ := h2; rw [h7]; rfl
        · cases h2
      · simp only [Option.some.injEq, Prod.mk.injEq] at h2; obtain ⟨rfl, rfl⟩ := h2; rw [h7]; rfl
      · cases h2
noncomputable def nthS (k : E → FH → Bool) (l : List (E × FH)) : Nat → Bool := List.rec (motive := fun _ => Nat → Bool) (fun _ => false) (fun x _ ih i => Nat.rec (motive := fun _ => Bool) (Prod.rec (motive := fun _ => Bool) k x) (fun j _ => ih j) i) l
theorem nthS_ok {k : E → FH → Bool} : ∀ {l : List (E × FH)} {i : Nat}, nthS k l i = true → ∃ x, l[i]? = some x ∧ k x.1 x.2 = true
  | [], i, h => by cases h
  | x :: r, 0, h => ⟨x, rfl, h⟩
  | x :: r, i + 1, h => by
    obtain ⟨y, h1, h2⟩ := nthS_ok (l := r) (i := i) h
    exact ⟨y, by simpa using h1, h2⟩
structure ChK (E : Type) where
  run : List (E × FH) → Bool → Bool
noncomputable def chkG (g : E → FV) (lo hi i : Nat) (s : List (E × FH)) (kk : Bool) : Bool := nthS (fun t _ => nthS (fun _ F => nthS (fun _ F' => stillV F F' kk (g t)) s hi) s lo) s i
noncomputable def chkS (I : EnvI E) (n : Nat) (mind : Nat → Bool) (ops : Array Oper) (is : List Nat) : ChK E :=
  List.rec (motive := fun _ => ChK E) ⟨fun _ kk => kk⟩ (fun i _ ih => match ops[i]? with
    | some o => match o.op with
      | .load _ x => natR (fun lo => natR (fun hi => natR (fun i => GetK.rec (motive := fun _ => ChK E) (fun g => ChK.rec (motive := fun _ => ChK E) (fun f => ⟨fun s kk => chkG g lo hi i s (f s kk)⟩) ih) (opdS I n x)) i) (winHi mind ops i)) (winLo mind ops i)
      | .lookup _ x _ _ => natR (fun lo => natR (fun hi => natR (fun i => GetK.rec (motive := fun _ => ChK E) (fun g => ChK.rec (motive := fun _ => ChK E) (fun f => ⟨fun s kk => chkG g lo hi i s (f s kk)⟩) ih) (opdS I n x)) i) (winHi mind ops i)) (winLo mind ops i)
      | _ => ih
    | none => ih) is
theorem chkG_ok {s : List (E × FH)} {s' : List (List Value × AH)} {x : Operand} {lo hi i : Nat} {kk : Bool} (hs : TrR I n s s') (h : chkG (opdS I n x).run lo hi i s kk = true) :
    (match s'[i]?, s'[lo]?, s'[hi]? with | some p, some a, some c => stillB a.2 c.2 (rho p.1 x) | _, _, _ => false) = true ∧ kk = true := by
  obtain ⟨p, h1, h⟩ := nthS_ok h
  obtain ⟨a, h2, h⟩ := nthS_ok h
  obtain ⟨c, h3, h⟩ := nthS_ok h
  obtain ⟨p', k1, k2, k3⟩ := hs.get _ _ h1
  obtain ⟨a', l1, l2, l3⟩ := hs.get _ _ h2
  obtain ⟨c', m1, m2, m3⟩ := hs.get _ _ h3
  obtain ⟨h4, h5⟩ := stillV_ok l3 m3 h
  rw [opdS_ok k2] at h4
  exact ⟨by rw [k1, l1, m1]; exact h4, h5⟩
theorem chkS_ok {s : List (E × FH)} {s' : List (List Value × AH)} {mind : Nat → Bool} {ops : Array Oper} {kk : Bool} (hs : TrR I n s s') : ∀ is : List Nat, (chkS I n mind ops is).run s kk = true →
    (is.all fun i => match ops[i]? with
      | some o => (match o.op with
        | .load _ x | .lookup _ x _ _ => (match s'[i]?, s'[winLo mind ops i]?, s'[winHi mind ops i]? with
          | some p, some a, some c => stillB a.2 c.2 (rho p.1 x)
          | _, _, _ => false)
        | _ => true)
      | none => true) = true ∧ kk = true
  | [], h => ⟨rfl, h⟩
  | i :: r, h => by
    have e0 : chkS I n mind ops (i :: r) = match ops[i]? with
      | some o => match o.op with
        | .load _ x => natR (fun lo => natR (fun hi => natR (fun i => GetK.rec (motive := fun _ => ChK E) (fun g => ChK.rec (motive := fun _ => ChK E) (fun f => ⟨fun s kk => chkG g lo hi i s (f s kk)⟩) (chkS I n mind ops r)) (opdS I n x)) i) (winHi mind ops i)) (winLo mind ops i)
        | .lookup _ x _ _ => natR (fun lo => natR (fun hi => natR (fun i => GetK.rec (motive := fun _ => ChK E) (fun g => ChK.rec (motive := fun _ => ChK E) (fun f => ⟨fun s kk => chkG g lo hi i s (f s kk)⟩) (chkS I n mind ops r)) (opdS I n x)) i) (winHi mind ops i)) (winLo mind ops i)
        | _ => chkS I n mind ops r
      | none => chkS I n mind ops r := rfl
    rw [e0] at h
    rw [List.all_cons]
    cases ho : ops[i]? with
    | none =>
      rw [ho] at h
      obtain ⟨h1, h2⟩ := chkS_ok hs r h
      exact ⟨by rw [h1]; rfl, h2⟩
    | some o =>
      rw [ho] at h
      simp only at h
      cases hop : o.op with
      | load ty x =>
        rw [hop] at h
        simp only at h
        rw [natR_eq, natR_eq, natR_eq] at h
        obtain ⟨h1, h2⟩ := chkG_ok hs (show chkG (opdS I n x).run _ _ i s ((chkS I n mind ops r).run s kk) = true from h)
        obtain ⟨h3, h4⟩ := chkS_ok hs r h2
        refine ⟨?_, h4⟩
        rw [h3, Bool.and_true]
        simp only [hop]
        exact h1
      | lookup ty x ky ok =>
        rw [hop] at h
        simp only at h
        rw [natR_eq, natR_eq, natR_eq] at h
        obtain ⟨h1, h2⟩ := chkG_ok hs (show chkG (opdS I n x).run _ _ i s ((chkS I n mind ops r).run s kk) = true from h)
        obtain ⟨h3, h4⟩ := chkS_ok hs r h2
        refine ⟨?_, h4⟩
        rw [h3, Bool.and_true]
        simp only [hop]
        exact h1
      | _ =>
        rw [hop] at h
        obtain ⟨h1, h2⟩ := chkS_ok hs r h
        exact ⟨by rw [h1, Bool.and_true]; simp only [hop], h2⟩
noncomputable def lastS (k : E → FH → Bool) (s : List (E × FH)) : Bool := List.rec (motive := fun _ => (E → FH → Bool) → Bool) (fun _ => false) (fun x r ih k => List.rec (motive := fun _ => Bool) (Prod.rec (motive := fun _ => Bool) k x) (fun _ _ _ => ih k) r) s k
theorem lastS_ok {k : E → FH → Bool} : ∀ {s : List (E × FH)}, lastS k s = true → ∃ x, s.getLast? = some x ∧ k x.1 x.2 = true
  | [], h => by cases h
  | [x], h => ⟨x, rfl, h⟩
  | x :: y :: r, h => by
    obtain ⟨z, h1, h2⟩ := lastS_ok (s := y :: r) h
    exact ⟨z, by simpa using h1, h2⟩
theorem TrR.last : ∀ {s : List (E × FH)} {s' : List (List Value × AH)}, TrR I n s s' → ∀ {x y}, s.getLast? = some x → s'.getLast? = some y → REv I n x.1 y.1 ∧ HR x.2 y.2
  | [], _, _, x, y, hx, _ => by cases hx
  | _ :: _, [], h, _, _, _, _ => h.elim
  | [a], [b], h, x, y, hx, hy => by simp at hx hy; subst hx; subst hy; exact h.1
  | [a], b :: c :: s, h, x, y, hx, hy => h.2.elim
  | a :: c :: r, [b], h, x, y, hx, hy => h.2.elim
  | a :: c :: r, b :: d :: s, h, x, y, hx, hy => TrR.last h.2 (by simpa using hx) (by simpa using hy)

/-! ### Regions in an order of their own -/
/-- Where a value points, a row's too, nothing has been written. -/
noncomputable def stillV2 (F F' : FH) (kk : Bool) (v : FV) : Bool := FV.rec (motive_1 := fun _ => Bool) (motive_2 := fun _ => Bool) (fun _ => kk) (fun _ _ => kk) (fun _ => kk) (fun _ _ => kk) (fun c _ => still1 F F' kk c) (fun c _ _ _ => still1 F F' kk c) (fun c => still1 F F' kk c) (fun _ _ => kk) (fun _ _ => kk) (fun _ _ _ => kk) (fun _ _ _ => kk) (fun v => noAddr kk v) false (fun _ _ _ _ => false) v
theorem still1_N {F' : FH} {H' : AH} {c : Nat} {kk : Bool} (hH : HR F H) (hH' : HR F' H') (h : still1 F F' kk c = true) : stillN H H' c = true ∧ kk = true := by
  obtain ⟨⟨b, b', h1, h2, h3, h4⟩, h5⟩ := still1_ok hH hH' h
  exact ⟨by unfold stillN; rw [h1, h2]; simp only [h3, h4]; rfl, h5⟩
theorem stillV2_ok {F' : FH} {H' : AH} {v : FV} {kk : Bool} (hH : HR F H) (hH' : HR F' H') (h : stillV2 F F' kk v = true) : stillP H H' v.val = true ∧ kk = true := by
  cases v with
  | pp c o => exact still1_N hH hH' h
  | ll c o n k => exact still1_N hH hH' h
  | mm c => exact still1_N hH hH' h
  | oo v =>
    have h : noAddr kk v = true := h
    unfold noAddr at h
    split at h
    · cases h
    · cases h
    · cases h
    · rename_i h1 h2 h3
      refine ⟨?_, h⟩
      show stillP H H' v = true
      unfold stillP
      split
      · rename_i a; exact (h1 a rfl).elim
      · rename_i a n k; exact (h3 a n k rfl).elim
      · rename_i r; exact (h2 r rfl).elim
      · rfl
  | _ => exact ⟨rfl, h⟩
theorem evTr_len {ops : Array Oper} {ca : CallA} : ∀ (l : List Oper) (e : List Value) (H : AH) (s : List (List Value × AH)), evTr P ca ops l e H = some s → s.length = l.length + 1
  | [], e, H, s, h => by simp only [evTr, Option.some.injEq] at h; subst h; rfl
  | o :: r, e, H, s, h => by
    simp only [evTr] at h
    split at h
    · split at h
      · obtain ⟨s', h1, rfl⟩ := Option.map_eq_some_iff.1 h
        simp [evTr_len r _ _ s' h1]
      · cases h
    · obtain ⟨s', h1, rfl⟩ := Option.map_eq_some_iff.1 h
      simp [evTr_len r _ _ s' h1]
    · cases h
noncomputable def nextF (F : FH) : Nat := FH.rec (motive := fun _ => Nat) (fun _ n _ => n) F
noncomputable def pcL (g : E → FV) (p hi : Nat) (s : List (E × FH)) (kk : Bool) : Bool := nthS (fun t F => nthS (fun _ F' => stillV2 F F' kk (g t)) s hi) s p
noncomputable def pcF (p p1 hi : Nat) (s : List (E × FH)) (kk : Bool) : Bool := nthS (fun _ F => nthS (fun _ F1 => iteK (nthS (fun _ F2 => still1 F1 F2 kk (nextF F)) s hi) kk (Nat.beq (nextF F1) (nextF F))) s p1) s p
/-- What is to be looked at behind a region: at which place what operation stands, and up to where. -/
noncomputable def pchS (I : EnvI E) (n : Nat) (P : Program) (ops : Array Oper) : Nat → List (Nat × Nat) → ChK E
  | _, [] => ⟨fun _ kk => kk⟩
  | p, ih :: r => match ops[ih.1]? with
    | some o => match lookX P o.op with
      | some x => natR (fun p => natR (fun hi => GetK.rec (motive := fun _ => ChK E) (fun g => ChK.rec (motive := fun _ => ChK E) (fun f => ⟨fun s kk => pcL g p hi s (f s kk)⟩) (pchS I n P ops (p + 1) r)) (opdS I n x)) ih.2) p
      | none => match floatB o.op with
        | true => natR (fun p => natR (fun p1 => natR (fun hi => ChK.rec (motive := fun _ => ChK E) (fun f => ⟨fun s kk => pcF p p1 hi s (f s kk)⟩) (pchS I n P ops (p + 1) r)) ih.2) (p + 1)) p
        | false => pchS I n P ops (p + 1) r
    | none => ⟨fun _ _ => false⟩
theorem pchS_ok {s : List (E × FH)} {s' : List (List Value × AH)} {ops : Array Oper} {kk : Bool} (hs : TrR I n s s') : ∀ (l : List (Nat × Nat)) (p : Nat), (pchS I n P ops p l).run s kk = true →
    (∀ k ih, l[k]? = some ih → ∃ o, ops[ih.1]? = some o ∧ (∀ x, lookX P o.op = some x → ∃ a c, s'[p + k]? = some a ∧ s'[ih.2]? = some c ∧ stillP a.2 c.2 (rho a.1 x) = true) ∧
      (floatB o.op = true → ∃ a a' c, s'[p + k]? = some a ∧ s'[p + k + 1]? = some a' ∧ (Nat.beq a'.2.next a.2.next = true ∨ (s'[ih.2]? = some c ∧ stillN a'.2 c.2 a.2.next = true)))) ∧ kk = true
  | [], p, h => ⟨fun k ih hk => by simp at hk, h⟩
  | ih :: r, p, h => by
    unfold pchS at h
    split at h
    case h_2 => cases h
    rename_i o ho
    have fin : ∀ (hx : (∀ x, lookX P o.op = some x → ∃ a c, s'[p]? = some a ∧ s'[ih.2]? = some c ∧ stillP a.2 c.2 (rho a.1 x) = true))
        (hf : (floatB o.op = true → ∃ a a' c, s'[p]? = some a ∧ s'[p + 1]? = some a' ∧ (Nat.beq a'.2.next a.2.next = true ∨ (s'[ih.2]? = some c ∧ stillN a'.2 c.2 a.2.next = true)))), (pchS I n P ops (p + 1) r).run s kk = true →
        ((∀ k jh, (ih :: r)[k]? = some jh → ∃ o, ops[jh.1]? = some o ∧ (∀ x, lookX P o.op = some x → ∃ a c, s'[p + k]? = some a ∧ s'[jh.2]? = some c ∧ stillP a.2 c.2 (rho a.1 x) = true) ∧
          (floatB o.op = true → ∃ a a' c, s'[p + k]? = some a ∧ s'[p + k + 1]? = some a' ∧ (Nat.beq a'.2.next a.2.next = true ∨ (s'[jh.2]? = some c ∧ stillN a'.2 c.2 a.2.next = true)))) ∧ kk = true) := fun hx hf h2 => by
      obtain ⟨h3, h4⟩ := pchS_ok hs r (p + 1) h2
      refine ⟨fun k jh hk => ?_, h4⟩
      cases k with
      | zero =>
        simp only [List.getElem?_cons_zero, Option.some.injEq] at hk
        subst hk
        exact ⟨o, ho, hx, hf⟩
      | succ k =>
        obtain ⟨o', g1, g2, g3⟩ := h3 k jh (by simpa using hk)
        rw [show p + 1 + k = p + (k + 1) by omega] at g2 g3
        exact ⟨o', g1, g2, g3⟩
    split at h
    · rename_i x hx
      rw [natR_eq, natR_eq] at h
      obtain ⟨a, h1, h2⟩ := nthS_ok (show nthS (fun t F => nthS (fun _ F' => stillV2 F F' ((pchS I n P ops (p + 1) r).run s kk) ((opdS I n x).run t)) s ih.2) s p = true from h)
      obtain ⟨c, h3, h4⟩ := nthS_ok h2
      obtain ⟨a', k1, k2, k3⟩ := hs.get _ _ h1
      obtain ⟨c', l1, l2, l3⟩ := hs.get _ _ h3
      obtain ⟨h5, h6⟩ := stillV2_ok k3 l3 h4
      rw [opdS_ok k2] at h5
      refine fin (fun x' hx' => ?_) (fun hf => ?_) h6
      · rw [hx] at hx'; cases hx'
        exact ⟨a', c', k1, l1, h5⟩
      · exfalso
        cases hop : o.op <;> rw [hop] at hf hx <;> first | (simp [floatB] at hf; done) | (simp [lookX] at hx; done)
    · rename_i hx
      split at h
      · rename_i hf
        rw [natR_eq, natR_eq, natR_eq] at h
        obtain ⟨a, h1, h2⟩ := nthS_ok (show nthS (fun _ F => nthS (fun _ F1 => iteK (nthS (fun _ F2 => still1 F1 F2 ((pchS I n P ops (p + 1) r).run s kk) (nextF F)) s ih.2) ((pchS I n P ops (p + 1) r).run s kk) (Nat.beq (nextF F1) (nextF F))) s (p + 1)) s p = true from h)
        obtain ⟨a1, h3, h4⟩ := nthS_ok h2
        obtain ⟨a', k1, k2, k3⟩ := hs.get _ _ h1
        obtain ⟨a1', l1, l2, l3⟩ := hs.get _ _ h3
        have n1 : nextF a.2 = a'.2.next := k3.next.symm
        have n2 : nextF a1.2 = a1'.2.next := l3.next.symm
        rw [n1, n2] at h4
        rcases iteK_ok h4 with ⟨_, h5⟩ | ⟨h5, h6⟩
        · obtain ⟨c, h7, h8⟩ := nthS_ok h5
          obtain ⟨c', m1, m2, m3⟩ := hs.get _ _ h7
          obtain ⟨h9, h10⟩ := still1_N l3 m3 h8
          exact fin (fun x' hx' => by rw [hx] at hx'; cases hx') (fun _ => ⟨a', a1', c', k1, l1, .inr ⟨m1, h9⟩⟩) h10
        · exact fin (fun x' hx' => by rw [hx] at hx'; cases hx') (fun _ => ⟨a', a1', a1', k1, l1, .inl h5⟩) h6
      · rename_i hf
        exact fin (fun x' hx' => by rw [hx] at hx'; cases hx') (fun hf2 => by rw [hf] at hf2; cases hf2) h
termination_by l => l.length

/-! ### Regions -/
/-- How a region is done: found out ahead. -/
inductive RK where
  | sq
  | tr
  | ld
  | pm (l : List (Nat × Nat))
def rkOk (P : Program) (ff : FuncId → Bool) (ops : Array Oper) (draw : Bool) : RK → Bool
  | .sq => !draw || calmReg ops || oneReg P ops || lateReg P ops false || (manyF P ff ops && noLoads ops)
  | .tr => manyF P ff ops
  | .ld => (manyReg P ops || lateReg P ops true) && !(draw && usePerm P ff ops)
  | .pm l => draw && usePerm P ff ops && decide (l = (ordOf P ops).map fun i => (i, hiP P ops (ordOf P ops) i))
noncomputable def regS (I : EnvI E) (n : Nat) (P : Program) (ff : FuncId → Bool) (ops : Array Oper) (rk : RK) : OpK E :=
  match rk with
  | .sq => regL I n P ops ops.toList
  | .tr => TrK.rec (motive := fun _ => OpK E) (fun tr => ChK.rec (motive := fun _ => OpK E) (fun ch => ⟨fun call k t F => tr call (fun s => ch s (lastS k s)) t F⟩) (chkS I n (mindF P ff ops) ops (List.range ops.size))) (trL I n P ops ops.toList)
  | .ld => OpK.rec (motive := fun _ => OpK E) (fun f => StK.rec (motive := fun _ => OpK E) (fun st => ⟨fun call k t F => f call (fun t' F' => st F F' t' (k t' F')) t F⟩) (loadsS I n ops.toList)) (regL I n P ops ops.toList)
  | .pm l => TrK.rec (motive := fun _ => OpK E) (fun tr => ChK.rec (motive := fun _ => OpK E) (fun ch => ⟨fun call k t F => tr call (fun s => ch s (lastS k s)) t F⟩) (pchS I n P ops 0 l)) (trL I n P ops ((l.map (·.1)).filterMap (ops[·]?)))
theorem regS_ok {ff : FuncId → Bool} {ops : Array Oper} {draw : Bool} {rk : RK} {call : CallT} {ca : CallA} {k : E → FH → Bool} {t : E} {e : List Value} (hrk : rkOk P ff ops draw rk = true) (hc : CallR call ca) (hr : REv I n t e) (hH : HR F H) (h : (regS I n P ff ops rk).run call k t F = true) :
    ∃ t' e' F' H', evRegion P ff ca ops draw e H = some (e', H') ∧ REv I n t' e' ∧ HR F' H' ∧ k t' F' = true := by
  have old : (calmReg ops || oneReg P ops || lateReg P ops false || manyF P ff ops) = true ∨ draw = false → (draw && usePerm P ff ops) = false := fun h => by
    rcases h with h | h
    · unfold usePerm; rw [h]; simp
    · rw [h]; rfl
  cases rk with
  | sq =>
    have hs : (!draw || calmReg ops || oneReg P ops || lateReg P ops false || (manyF P ff ops && noLoads ops)) = true := hrk
    obtain ⟨t', e', F', H', h1, h2, h3, h4⟩ := regL_ok hc _ _ _ _ _ hr hH (show (regL I n P ops ops.toList).run call k t F = true from h)
    refine ⟨t', e', F', H', ?_, h2, h3, h4⟩
    unfold evRegion
    rw [old (by
      cases draw with
      | false => exact .inr rfl
      | true =>
        left
        simp only [Bool.not_true, Bool.false_or, Bool.or_eq_true, Bool.and_eq_true] at hs ⊢
        rcases hs with ((h | h) | h) | h
        · simp [h]
        · simp [h]
        · simp [h]
        · simp [h.1])]
    simp only [cond_false]
    unfold evRegionT
    rw [h1]
    simp only
    rw [show (!draw || calmReg ops || oneReg P ops || (manyReg P ops && stillAll ops e' H H') || lateReg P ops false || (lateReg P ops true && stillAll ops e' H H') || (manyF P ff ops && (noLoads ops || stillW P ca (mindF P ff ops) ops e H))) = true by
      revert hs
      generalize (!draw || calmReg ops || oneReg P ops) = a
      generalize lateReg P ops false = b
      generalize manyF P ff ops = c
      generalize noLoads ops = d
      cases a <;> cases b <;> cases c <;> cases d <;> simp]
    rfl
  | tr =>
    have hm : manyF P ff ops = true := hrk
    obtain ⟨s, s', e', H', h1, h2, h3, h4, h5⟩ := trL_ok hc _ _ _ _ _ _ hr hH (show (trL I n P ops ops.toList).run call (fun s => (chkS I n (mindF P ff ops) ops (List.range ops.size)).run s (lastS k s)) t F = true from h)
    obtain ⟨h6, h7⟩ := chkS_ok h3 _ h5
    obtain ⟨x, h8, h9⟩ := lastS_ok h7
    obtain ⟨h10, h11⟩ := h3.last h8 h4
    refine ⟨x.1, e', x.2, H', ?_, h10, h11, h9⟩
    unfold evRegion
    rw [old (.inl (by simp [hm]))]
    simp only [cond_false]
    unfold evRegionT
    rw [h1]
    simp only
    have hw : stillW P ca (mindF P ff ops) ops e H = true := by
      unfold stillW
      rw [h2]
      exact h6
    rw [show (!draw || calmReg ops || oneReg P ops || (manyReg P ops && stillAll ops e' H H') || lateReg P ops false || (lateReg P ops true && stillAll ops e' H H') || (manyF P ff ops && (noLoads ops || stillW P ca (mindF P ff ops) ops e H))) = true by rw [hm, hw]; simp]
    rfl
  | ld =>
    have hrk : ((manyReg P ops || lateReg P ops true) && !(draw && usePerm P ff ops)) = true := hrk
    have hm : (manyReg P ops || lateReg P ops true) = true := (Bool.and_eq_true_iff.1 hrk).1
    have hnp : (draw && usePerm P ff ops) = false := by
      have := (Bool.and_eq_true_iff.1 hrk).2
      cases hdr : (draw && usePerm P ff ops) with
      | false => rfl
      | true => rw [hdr] at this; cases this
    obtain ⟨t', e', F', H', h1, h2, h3, h4⟩ := regL_ok hc _ _ _ _ _ hr hH (show (regL I n P ops ops.toList).run call (fun t' F' => (loadsS I n ops.toList).run F F' t' (k t' F')) t F = true from h)
    obtain ⟨h5, h6⟩ := loadsS_ok h2 hH h3 _ h4
    refine ⟨t', e', F', H', ?_, h2, h3, h6⟩
    have hm2 : manyReg P ops = true ∨ lateReg P ops true = true := (Bool.or_eq_true _ _ ▸ hm : manyReg P ops = true ∨ lateReg P ops true = true)
    unfold evRegion
    rw [hnp]
    simp only [cond_false]
    unfold evRegionT
    rw [h1]
    simp only
    have hst : stillAll ops e' H H' = true := h5
    rw [show (!draw || calmReg ops || oneReg P ops || (manyReg P ops && stillAll ops e' H H') || lateReg P ops false || (lateReg P ops true && stillAll ops e' H H') || (manyF P ff ops && (noLoads ops || stillW P ca (mindF P ff ops) ops e H))) = true by
      rw [hst]
      rcases hm2 with h | h <;> rw [h] <;> simp]
    rfl
  | pm l =>
    have hm : (draw && usePerm P ff ops && decide (l = (ordOf P ops).map fun i => (i, hiP P ops (ordOf P ops) i))) = true := hrk
    simp only [Bool.and_eq_true, decide_eq_true_eq] at hm
    obtain ⟨⟨hd, hup⟩, hl⟩ := hm
    have hl1 : l.map (·.1) = ordOf P ops := by rw [hl]; simp [Function.comp_def]
    obtain ⟨s, s', e', H', h1, h2, h3, h4, h5⟩ := trL_ok hc _ _ _ _ _ _ hr hH (show (trL I n P ops ((l.map (·.1)).filterMap (ops[·]?))).run call (fun s => (pchS I n P ops 0 l).run s (lastS k s)) t F = true from h)
    obtain ⟨h6, h7⟩ := pchS_ok h3 l 0 h5
    obtain ⟨x, h8, h9⟩ := lastS_ok h7
    obtain ⟨h10, h11⟩ := h3.last h8 h4
    refine ⟨x.1, e', x.2, H', ?_, h10, h11, h9⟩
    rw [hl1] at h1 h2
    have ho := permOk_spec (ord := ordOf P ops) (by unfold usePerm at hup; rw [Bool.and_eq_true] at hup; exact hup.2)
    unfold evRegion
    rw [hd, hup]
    simp only [Bool.and_self, cond_true]
    unfold permA
    rw [h2, h1]
    simp only
    have hlen := evTr_len _ _ _ _ h2
    have hfl : ((ordOf P ops).filterMap (ops[·]?)).length = ops.size := by
      have hget := filterMap_ord (ops := ops) (ord := ordOf P ops) fun p i hp => (ho.of p i hp).1
      have a2 : ((ordOf P ops).filterMap (ops[·]?)).length ≤ (ordOf P ops).length := List.length_filterMap_le _ _
      rw [ho.len] at a2
      rcases Nat.lt_or_ge ((ordOf P ops).filterMap (ops[·]?)).length ops.size with h | h
      · exfalso
        have hp2 : ((ordOf P ops).filterMap (ops[·]?)).length < (ordOf P ops).length := by rw [ho.len]; exact h
        have g := hget ((ordOf P ops).filterMap (ops[·]?)).length
        rw [List.getElem?_eq_none (Nat.le_refl _), List.getElem?_eq_getElem hp2] at g
        have g2 := (ho.of _ _ (List.getElem?_eq_getElem hp2)).1
        simp only [Option.bind_some, Array.getElem?_eq_getElem g2] at g
        cases g
      · omega
    rw [hfl] at hlen
    have hchk : permChk P ops (ordOf P ops) s' = true := by
      unfold permChk
      rw [List.all_eq_true]
      intro p hp
      rw [List.mem_range] at hp
      have hpo : p < (ordOf P ops).length := by rw [ho.len]; exact hp
      have g0 := List.getElem?_eq_getElem hpo
      generalize hi : (ordOf P ops)[p] = i at g0
      have hlp : l[p]? = some (i, hiP P ops (ordOf P ops) i) := by rw [hl, List.getElem?_map, g0]; rfl
      obtain ⟨o, g1, g2, g3⟩ := h6 p _ hlp
      rw [Nat.zero_add] at g2 g3
      have hhi := (hiP_spec (P := P) (ops := ops) (ordOf P ops) i).1
      have q1 : s'[p]? = some s'[p] := List.getElem?_eq_getElem (by omega)
      have q2 : s'[p + 1]? = some s'[p + 1] := List.getElem?_eq_getElem (by omega)
      have q3 : s'[hiP P ops (ordOf P ops) i]? = some s'[hiP P ops (ordOf P ops) i] := List.getElem?_eq_getElem (by omega)
      rw [g0, q1, q2]
      simp only at g1 ⊢
      rw [g1]
      simp only
      rw [q3]
      simp only
      rw [Bool.and_eq_true]
      constructor
      · cases hx : lookX P o.op with
        | none => rfl
        | some x =>
          obtain ⟨a, c, k1, k2, k3⟩ := g2 x hx
          rw [q1] at k1; cases k1
          simp only at k2
          rw [q3] at k2; cases k2
          exact k3
      · cases hf : floatB o.op with
        | false => rfl
        | true =>
          obtain ⟨a, a', c, k1, k2, k3⟩ := g3 hf
          rw [q1] at k1; cases k1
          rw [q2] at k2; cases k2
          rcases k3 with k3 | ⟨k3, k4⟩
          · rw [k3]; rfl
          · simp only at k3
            rw [q3] at k3; cases k3
            rw [k4]; simp
    rw [hchk]
    rfl
end
end Go.Proofs.YtaadahhjdkkkaaaGreatDoor.Ev
