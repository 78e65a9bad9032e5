/-
  The machine: regions, code, functions. What it says, the evaluator says.
  The machine: code and functions. What it says, the evaluator says.
  Functions told of by hand, as the machine has them: those that leave the heap alone.
  Pieces of a run. Between two pieces only a few slots are known; what lies in the heap of one is not looked at in the next.
-/
import Derived.Test.YtenolmhnmcjndaaGreatDoorEvVmK
import Derived.Test.YtenolmhnmcjndaaGreatDoorEvUp
import Derived.Test.YtenolmhnmcjndaaGreatDoorEvLaw
namespace Go.Proofs.YtenolmhnmcjndaaGreatDoor.Ev
set_option linter.unusedVariables false
set_option linter.unusedSimpArgs false
open Go
structure OpK (E : Type) where
  run : CallT → (E → FH → Bool) → E → FH → Bool
section
variable {E : Type} {I : EnvI E} {n : Nat} {P : Program} {F : FH} {H : AH}

/-! ### Operations one behind the other -/
noncomputable def opS (I : EnvI E) (n : Nat) (P : Program) (o : Oper) : OpK E :=
  BodyK.rec (motive := fun _ => OpK E) (fun b => PutK.rec (motive := fun _ => OpK E) (fun pd => ⟨fun call k t F => b call (fun v F => pd (fun t => k t F) v t) t F⟩) (putS I n o.dst)) (bodyS I n P o)
theorem opS_ok {o : Oper} {call : CallT} {ca : CallA} {k : E → FH → Bool} {t : E} {e : List Value} (hc : CallR call ca) (hr : REv I n t e) (hH : HR F H) (h : (opS I n P o).run call k t F = true) :
    ∃ v H' t' F', evOp P ca o (rho e) H = some (v, H') ∧ REv I n t' (putE e o.dst v) ∧ HR F' H' ∧ k t' F' = true := by
  have h : (bodyS I n P o).run call (fun v F => (putS I n o.dst).run (fun t => k t F) v t) t F = true := h
  obtain ⟨v, F', H', h1, h2, h3⟩ := bodyS_ok o call ca t e F H _ hc hr hH h
  obtain ⟨t', h4, h5⟩ := putS_ok hr h3
  exact ⟨_, H', t', F', h1, h5, h2, h4⟩
noncomputable def emT (y : Bool) (v : Value) : Bool := match v with
  | .tuple vs => ifK y vs.toList.isEmpty
  | _ => false
noncomputable def gd1 (x y : Bool) (want b : Bool) : Bool := Bool.rec (motive := fun _ => Bool) (iteK x y want) (iteK y x want) b
noncomputable def gdK (x y : Bool) (want : Bool) (v : FV) : Bool := onB (gd1 x y want) (emT y v.val) v
theorem gdK_ok {x y want : Bool} {v : FV} (h : gdK x y want v = true) : (∃ b, v.val = .bool b ∧ ((b == want) = true ∧ x = true ∨ (b == want) = false ∧ y = true)) ∨ (v.val = .tuple #[] ∧ y = true) := by
  rcases onB_ok h with ⟨b, rfl, h⟩ | h
  · refine .inl ⟨b, rfl, ?_⟩
    cases b <;> cases want
    · exact .inl ⟨rfl, h⟩
    · exact .inr ⟨rfl, h⟩
    · exact .inr ⟨rfl, h⟩
    · exact .inl ⟨rfl, h⟩
  · unfold emT at h
    split at h
    case h_2 => cases h
    rename_i vs hv
    obtain ⟨h1, h2⟩ := ifK_ok h
    have : vs = #[] := by apply Array.ext'; simpa using h1
    exact .inr ⟨by rw [hv, this], h2⟩
noncomputable def gopS (I : EnvI E) (n : Nat) (P : Program) (ops : Array Oper) (o : Oper) : OpK E := match o.guard with
  | none => opS I n P o
  | some (j, want) => match (ops[j]?).bind (·.dst) with
    | some d => Bool.rec (motive := fun _ => OpK E) ⟨fun _ _ _ _ => false⟩ (GetK.rec (motive := fun _ => OpK E) (fun g => OpK.rec (motive := fun _ => OpK E) (fun ob => PutK.rec (motive := fun _ => OpK E) (fun pd => ⟨fun call k t F => gdK (ob call k t F) (pd (fun t => k t F) undefF t) want (g t)⟩) (putS I n o.dst)) (opS I n P o)) (opdS I n (.tmp d))) (Nat.blt d n)
    | none => ⟨fun _ _ _ _ => false⟩
noncomputable def regL (I : EnvI E) (n : Nat) (P : Program) (ops : Array Oper) (l : List Oper) : OpK E :=
  List.rec (motive := fun _ => OpK E) ⟨fun _ k t F => k t F⟩ (fun o r ih => OpK.rec (motive := fun _ => OpK E) (fun f => List.rec (motive := fun _ => OpK E) ⟨f⟩ (fun _ _ _ => OpK.rec (motive := fun _ => OpK E) (fun fr => ⟨fun call k t F => f call (fr call k) t F⟩) ih) r) (gopS I n P ops o)) l
theorem regL_cons (ops : Array Oper) (o : Oper) (r : List Oper) (call : CallT) (k : E → FH → Bool) (t : E) (F : FH) : (regL I n P ops (o :: r)).run call k t F = (gopS I n P ops o).run call ((regL I n P ops r).run call k) t F := by
  cases r with
  | nil => rfl
  | cons p r => rfl
theorem regL_ok {ops : Array Oper} {call : CallT} {ca : CallA} {k : E → FH → Bool} (hc : CallR call ca) : ∀ (l : List Oper) (t : E) (e : List Value) (F : FH) (H : AH), REv I n t e → HR F H → (regL I n P ops l).run call k t F = true →
    ∃ t' e' F' H', evOps P ca ops l e H = some (e', H') ∧ REv I n t' e' ∧ HR F' H' ∧ k t' F' = true
  | [], t, e, F, H, hr, hH, h => ⟨t, e, F, H, rfl, hr, hH, h⟩
  | o :: r, t, e, F, H, hr, hH, h => by
    rw [regL_cons] at h
    unfold gopS at h
    split at h
    · rename_i hg
      obtain ⟨v, H', t', F', h1, h2, h3, h4⟩ := opS_ok hc hr hH h
      obtain ⟨t2, e2, F2, H2, h5, h6, h7, h8⟩ := regL_ok hc r t' _ F' H' h2 h3 h4
      refine ⟨t2, e2, F2, H2, ?_, h6, h7, h8⟩
      have hgd : guardA ops o e = some true := by unfold guardA; rw [hg]
      simp only [evOps, hgd, h1]; exact h5
    · rename_i j want hg
      split at h
      case h_2 => cases h
      rename_i d hd
      cases hdn : Nat.blt d n with
      | false => rw [hdn] at h; cases h
      | true =>
        rw [hdn] at h
        have h : gdK ((opS I n P o).run call ((regL I n P ops r).run call k) t F) ((putS I n o.dst).run (fun t => (regL I n P ops r).run call k t F) undefF t) want ((opdS I n (.tmp d)).run t) = true := h
        have hdl : d < n := by simpa using hdn
        have hed : e[d]? = some ((opdS I n (.tmp d)).run t).val := by
          rw [opdS_ok hr]
          show e[d]? = some (e.getD d undef)
          rw [List.getD_eq_getElem?_getD, hr.at_ d hdl]; rfl
        have hgu : guardA ops o e = match some ((opdS I n (.tmp d)).run t).val with
            | some (.bool b) => some (b == want)
            | some (.tuple vs) => bif vs.isEmpty then some false else none
            | _ => none := by
          unfold guardA
          rw [hg]
          simp only [hd, Option.bind_some, hed]
          rfl
        have skip : guardA ops o e = some false → (putS I n o.dst).run (fun t => (regL I n P ops r).run call k t F) undefF t = true → ∃ t' e' F' H', evOps P ca ops (o :: r) e H = some (e', H') ∧ REv I n t' e' ∧ HR F' H' ∧ k t' F' = true := fun hgf h4 => by
          obtain ⟨t', h5, h6⟩ := putS_ok hr h4
          obtain ⟨t2, e2, F2, H2, h7, h8, h9, h10⟩ := regL_ok hc r t' _ F H h6 hH h5
          refine ⟨t2, e2, F2, H2, ?_, h8, h9, h10⟩
          simp only [evOps, hgf]; exact h7
        rcases gdK_ok h with ⟨b, hv, h1⟩ | ⟨hv, h1⟩
        · rw [hv] at hgu
          rcases h1 with ⟨hb, h2⟩ | ⟨hb, h2⟩
          · have hgt : guardA ops o e = some true := by rw [hgu]; simp [hb]
            obtain ⟨v, H', t', F', h3, h4, h5, h6⟩ := opS_ok hc hr hH h2
            obtain ⟨t2, e2, F2, H2, h7, h8, h9, h10⟩ := regL_ok hc r t' _ F' H' h4 h5 h6
            refine ⟨t2, e2, F2, H2, ?_, h8, h9, h10⟩
            simp only [evOps, hgt, h3]; exact h7
          · exact skip (by rw [hgu]; simp [hb]) h2
        · rw [hv] at hgu
          exact skip (by rw [hgu]; rfl) h1

/-! ### Loads that stay as they are -/
noncomputable def verB (k : Nat → Bool) (fb : FBlk) : Bool := FBlk.rec (motive := fun _ => Bool) (fun _ ver => k ver) (fun _ _ ver _ _ => k ver) fb
noncomputable def verK (k : Nat → Bool) (F : FH) (c : Nat) : Bool := FH.rec (motive := fun _ => Bool) (fun t _ _ => Q.getK (verB k) t c) F
theorem verK_ok {k : Nat → Bool} {c : Nat} (hH : HR F H) (h : verK k F c = true) : ∃ b, H.blk c = some b ∧ k b.ver = true := by
  obtain ⟨fb, h1, h2⟩ := Q.getK_ok (show Q.getK (verB k) F.t c = true from h)
  obtain ⟨b, hb, hB⟩ := hH.blk c fb h1
  refine ⟨b, hb, ?_⟩
  cases fb with
  | xx o ver => rw [hB.2.1]; exact h2
  | gg o root ver hd fl => rw [hB.2.2.1]; exact h2
noncomputable def still1 (F F' : FH) (kk : Bool) (c : Nat) : Bool := verK (fun v => verK (fun v' => ifK (objK (fun _ => kk) F' c) (Nat.beq v' v)) F' c) F c
theorem still1_ok {F' : FH} {H' : AH} {c : Nat} {kk : Bool} (hH : HR F H) (hH' : HR F' H') (h : still1 F F' kk c = true) : (∃ b b', H.blk c = some b ∧ H'.blk c = some b' ∧ Nat.beq b'.ver b.ver = true ∧ H'.live c b' = true) ∧ kk = true := by
  obtain ⟨b, hb, h1⟩ := verK_ok hH h
  obtain ⟨b', hb', h2⟩ := verK_ok hH' h1
  obtain ⟨h3, h4⟩ := ifK_ok h2
  obtain ⟨o, b2, hb2, hl, _, h5⟩ := objK_ok hH' h4
  rw [hb'] at hb2; cases hb2
  exact ⟨⟨b, b', hb, hb', h3, hl⟩, h5⟩
noncomputable def noAddr (kk : Bool) (v : Value) : Bool := match v with
  | .pointer (some _) => false
  | .map (some _) => false
  | .slice (some _) _ _ => false
  | _ => kk
/-- Where a value points nothing has been written. -/
noncomputable def stillV (F F' : FH) (kk : Bool) (v : FV) : Bool := FV.rec (motive_1 := fun _ => Bool) (motive_2 := fun _ => Bool) (fun _ => kk) (fun _ _ => kk) (fun _ => kk) (fun _ _ => kk) (fun c _ => still1 F F' kk c) (fun _ _ _ _ => kk) (fun c => still1 F F' kk c) (fun _ _ => kk) (fun _ _ => kk) (fun _ _ _ => kk) (fun _ _ _ => kk) (fun v => noAddr kk v) false (fun _ _ _ _ => false) v
theorem stillV_ok {F' : FH} {H' : AH} {v : FV} {kk : Bool} (hH : HR F H) (hH' : HR F' H') (h : stillV F F' kk v = true) : stillB H H' v.val = true ∧ kk = true := by
  cases v with
  | pp c o =>
    obtain ⟨⟨b, b', h1, h2, h3, h4⟩, h5⟩ := still1_ok hH hH' (show still1 F F' kk c = true from h)
    exact ⟨by simp only [FV.val, stillB, h1, h2, h3, h4]; rfl, h5⟩
  | mm c =>
    obtain ⟨⟨b, b', h1, h2, h3, h4⟩, h5⟩ := still1_ok hH hH' (show still1 F F' kk c = true from h)
    exact ⟨by simp only [FV.val, stillB, h1, h2, h3, h4]; rfl, h5⟩
  | oo v =>
    have h : noAddr kk v = true := h
    unfold noAddr at h
    split at h
    · cases h
    · cases h
    · cases h
    · rename_i h1 h2 h3
      refine ⟨?_, h⟩
      show stillB H H' v = true
      unfold stillB
      split
      · rename_i a; exact (h1 a rfl).elim
      · rename_i r; exact (h2 r rfl).elim
      · rfl
  | _ => exact ⟨rfl, h⟩
structure StK (E : Type) where
  run : FH → FH → E → Bool → Bool
noncomputable def loadsS (I : EnvI E) (n : Nat) (l : List Oper) : StK E :=
  List.rec (motive := fun _ => StK E) ⟨fun _ _ _ kk => kk⟩ (fun o _ ih => match o.op with
    | .load _ x => GetK.rec (motive := fun _ => StK E) (fun g => StK.rec (motive := fun _ => StK E) (fun f => ⟨fun F F' t kk => stillV F F' (f F F' t kk) (g t)⟩) ih) (opdS I n x)
    | _ => ih) l
theorem loadsS_ok {F' : FH} {H' : AH} {t : E} {e : List Value} {kk : Bool} (hr : REv I n t e) (hH : HR F H) (hH' : HR F' H') : ∀ l : List Oper, (loadsS I n l).run F F' t kk = true → (l.all fun o => match o.op with | .load _ x => stillB H H' (rho e x) | _ => true) = true ∧ kk = true
  | [], h => ⟨rfl, h⟩
  | o :: r, h => by
    have e0 : loadsS I n (o :: r) = match o.op with
      | .load _ x => GetK.rec (motive := fun _ => StK E) (fun g => StK.rec (motive := fun _ => StK E) (fun f => ⟨fun F F' t kk => stillV F F' (f F F' t kk) (g t)⟩) (loadsS I n r)) (opdS I n x)
      | _ => loadsS I n r := rfl
    rw [e0] at h
    rw [List.all_cons]
    split at h
    · rename_i ty x ho
      obtain ⟨h1, h2⟩ := stillV_ok hH hH' (show stillV F F' ((loadsS I n r).run F F' t kk) ((opdS I n x).run t) = true from h)
      obtain ⟨h3, h4⟩ := loadsS_ok hr hH hH' r h2
      rw [opdS_ok hr] at h1
      exact ⟨by simp only [h1, h3, Bool.and_self], h4⟩
    · rename_i hno
      obtain ⟨h3, h4⟩ := loadsS_ok hr hH hH' r h
      refine ⟨?_, h4⟩
      rw [h3, Bool.and_true]

/-! ### Regions gone through with all that lies between -/
structure TrK (E : Type) where
  run : CallT → (List (E × FH) → Bool) → E → FH → Bool
noncomputable def trL (I : EnvI E) (n : Nat) (P : Program) (ops : Array Oper) (l : List Oper) : TrK E :=
  List.rec (motive := fun _ => TrK E) ⟨fun _ k t F => k [(t, F)]⟩ (fun o _ ih => OpK.rec (motive := fun _ => TrK E) (fun f => TrK.rec (motive := fun _ => TrK E) (fun fr => ⟨fun call k t F => f call (fr call (fun s => k ((t, F) :: s))) t F⟩) ih) (gopS I n P ops o)) l
/-- The states stand for those of the evaluator. -/
def TrR (I : EnvI E) (n : Nat) : List (E × FH) → List (List Value × AH) → Prop
  | [], [] => True
  | x :: r, y :: s => (REv I n x.1 y.1 ∧ HR x.2 y.2) ∧ TrR I n r s
  | _, _ => False
theorem TrR.get : ∀ {s : List (E × FH)} {s' : List (List Value × AH)}, TrR I n s s' → ∀ (i : Nat) x, s[i]? = some x → ∃ y, s'[i]? = some y ∧ REv I n x.1 y.1 ∧ HR x.2 y.2
  | [], [], _, i, x, hx => by simp at hx
  | [], _ :: _, h, _, _, _ => h.elim
  | _ :: _, [], h, _, _, _ => h.elim
  | a :: r, b :: s, h, 0, x, hx => by simp at hx; subst hx; exact ⟨b, rfl, h.1⟩
  | a :: r, b :: s, h, i + 1, x, hx => by
    obtain ⟨y, h1, h2⟩ := TrR.get h.2 i x (by simpa using hx)
    exact ⟨y, by simpa using h1, h2⟩
theorem trL_ok {ops : Array Oper} {call : CallT} {ca : CallA} (hc : CallR call ca) : ∀ (l : List Oper) (k : List (E × FH) → Bool) (t : E) (e : List Value) (F : FH) (H : AH), REv I n t e → HR F H → (trL I n P ops l).run call k t F = true →
    ∃ s s' e' H', evOps P ca ops l e H = some (e', H') ∧ evTr P ca ops l e H = some s' ∧ TrR I n s s' ∧ s'.getLast? = some (e', H') ∧ k s = true
  | [], k, t, e, F, H, hr, hH, h => ⟨[(t, F)], [(e, H)], e, H, rfl, rfl, ⟨⟨hr, hH⟩, trivial⟩, rfl, h⟩
  | o :: r, k, t, e, F, H, hr, hH, h => by
    have h : (gopS I n P ops o).run call ((trL I n P ops r).run call (fun s => k ((t, F) :: s))) t F = true := h
    -- the operation alone, as a list of one
    have h1 : (regL I n P ops [o]).run call ((trL I n P ops r).run call (fun s => k ((t, F) :: s))) t F = true := h
    obtain ⟨t', e1, F', H1, h2, h3, h4, h5⟩ := regL_ok hc [o] t e F H hr hH h1
    obtain ⟨s, s', e', H', h6, h7, h8, h9, h10⟩ := trL_ok hc r _ t' e1 F' H1 h3 h4 h5
    have hne : s' ≠ [] := fun e0 => by rw [e0] at h9; cases h9
    have hlast : ((e, H) :: s').getLast? = some (e', H') := by
      cases s' with
      | nil => exact absurd rfl hne
      | cons a b => simpa using h9
    simp only [evOps] at h2
    refine ⟨(t, F) :: s, (e, H) :: s', e', H', ?_, ?_, ⟨⟨hr, hH⟩, h8⟩, hlast, h10⟩
    · simp only [evOps]
      split at h2
      · split at h2
        · rename_i hv; simp only [Option.some.injEq, Prod.mk.injEq] at h2; obtain ⟨rfl, rfl⟩ := h2; exact h6
        · cases h2
      · simp only [Option.some.injEq, Prod.mk.injEq] at h2; obtain ⟨rfl, rfl⟩ := h2; exact h6
      · cases h2
    · simp only [evTr]
      split at h2
      · split at h2
        · rename_i hv; simp only [Option.some.injEq, Prod.mk.injEq] at h2; obtain ⟨rfl, rfl⟩ := h2; rw [h7]; rfl
        · cases h2
      · simp only [Option.some.injEq, Prod.mk.injEq] at h2; obtain ⟨rfl, rfl⟩ := h2; rw [h7]; rfl
      · cases h2
noncomputable def nthS (k : E → FH → Bool) (l : List (E × FH)) : Nat → Bool := List.rec (motive := fun _ => Nat → Bool) (fun _ => false) (fun x _ ih i => Nat.rec (motive := fun _ => Bool) (Prod.rec (motive := fun _ => Bool) k x) (fun j _ => ih j) i) l
theorem nthS_ok {k : E → FH → Bool} : ∀ {l : List (E × FH)} {i : Nat}, nthS k l i = true → ∃ x, l[i]? = some x ∧ k x.1 x.2 = true
  | [], i, h => by cases h
  | x :: r, 0, h => ⟨x, rfl, h⟩
  | x :: r, i + 1, h => by
    obtain ⟨y, h1, h2⟩ := nthS_ok (l := r) (i := i) h
    exact ⟨y, by simpa using h1, h2⟩
structure ChK (E : Type) where
  run : List (E × FH) → Bool → Bool
noncomputable def chkG (g : E → FV) (lo hi i : Nat) (s : List (E × FH)) (kk : Bool) : Bool := nthS (fun t _ => nthS (fun _ F => nthS (fun _ F' => stillV F F' kk (g t)) s hi) s lo) s i
noncomputable def chkS (I : EnvI E) (n : Nat) (mind : Nat → Bool) (ops : Array Oper) (is : List Nat) : ChK E :=
  List.rec (motive := fun _ => ChK E) ⟨fun _ kk => kk⟩ (fun i _ ih => match ops[i]? with
    | some o => match o.op with
      | .load _ x => natR (fun lo => natR (fun hi => natR (fun i => GetK.rec (motive := fun _ => ChK E) (fun g => ChK.rec (motive := fun _ => ChK E) (fun f => ⟨fun s kk => chkG g lo hi i s (f s kk)⟩) ih) (opdS I n x)) i) (winHi mind ops i)) (winLo mind ops i)
      | .lookup _ x _ _ => natR (fun lo => natR (fun hi => natR (fun i => GetK.rec (motive := fun _ => ChK E) (fun g => ChK.rec (motive := fun _ => ChK E) (fun f => ⟨fun s kk => chkG g lo hi i s (f s kk)⟩) ih) (opdS I n x)) i) (winHi mind ops i)) (winLo mind ops i)
      | _ => ih
    | none => ih) is
theorem chkG_ok {s : List (E × FH)} {s' : List (List Value × AH)} {x : Operand} {lo hi i : Nat} {kk : Bool} (hs : TrR I n s s') (h : chkG (opdS I n x).run lo hi i s kk = true) :
    (match s'[i]?, s'[lo]?, s'[hi]? with | some p, some a, some c => stillB a.2 c.2 (rho p.1 x) | _, _, _ => false) = true ∧ kk = true := by
  obtain ⟨p, h1, h⟩ := nthS_ok h
  obtain ⟨a, h2, h⟩ := nthS_ok h
  obtain ⟨c, h3, h⟩ := nthS_ok h
  obtain ⟨p', k1, k2, k3⟩ := hs.get _ _ h1
  obtain ⟨a', l1, l2, l3⟩ := hs.get _ _ h2
  obtain ⟨c', m1, m2, m3⟩ := hs.get _ _ h3
  obtain ⟨h4, h5⟩ := stillV_ok l3 m3 h
  rw [opdS_ok k2] at h4
  exact ⟨by rw [k1, l1, m1]; exact h4, h5⟩
theorem chkS_ok {s : List (E × FH)} {s' : List (List Value × AH)} {mind : Nat → Bool} {ops : Array Oper} {kk : Bool} (hs : TrR I n s s') : ∀ is : List Nat, (chkS I n mind ops is).run s kk = true →
    (is.all fun i => match ops[i]? with
      | some o => (match o.op with
        | .load _ x | .lookup _ x _ _ => (match s'[i]?, s'[winLo mind ops i]?, s'[winHi mind ops i]? with
          | some p, some a, some c => stillB a.2 c.2 (rho p.1 x)
          | _, _, _ => false)
        | _ => true)
      | none => true) = true ∧ kk = true
  | [], h => ⟨rfl, h⟩
  | i :: r, h => by
    have e0 : chkS I n mind ops (i :: r) = match ops[i]? with
      | some o => match o.op with
        | .load _ x => natR (fun lo => natR (fun hi => natR (fun i => GetK.rec (motive := fun _ => ChK E) (fun g => ChK.rec (motive := fun _ => ChK E) (fun f => ⟨fun s kk => chkG g lo hi i s (f s kk)⟩) (chkS I n mind ops r)) (opdS I n x)) i) (winHi mind ops i)) (winLo mind ops i)
        | .lookup _ x _ _ => natR (fun lo => natR (fun hi => natR (fun i => GetK.rec (motive := fun _ => ChK E) (fun g => ChK.rec (motive := fun _ => ChK E) (fun f => ⟨fun s kk => chkG g lo hi i s (f s kk)⟩) (chkS I n mind ops r)) (opdS I n x)) i) (winHi mind ops i)) (winLo mind ops i)
        | _ => chkS I n mind ops r
      | none => chkS I n mind ops r := rfl
    rw [e0] at h
    rw [List.all_cons]
    cases ho : ops[i]? with
    | none =>
      rw [ho] at h
      obtain ⟨h1, h2⟩ := chkS_ok hs r h
      exact ⟨by rw [h1]; rfl, h2⟩
    | some o =>
      rw [ho] at h
      simp only at h
      cases hop : o.op with
      | load ty x =>
        rw [hop] at h
        simp only at h
        rw [natR_eq, natR_eq, natR_eq] at h
        obtain ⟨h1, h2⟩ := chkG_ok hs (show chkG (opdS I n x).run _ _ i s ((chkS I n mind ops r).run s kk) = true from h)
        obtain ⟨h3, h4⟩ := chkS_ok hs r h2
        refine ⟨?_, h4⟩
        rw [h3, Bool.and_true]
        simp only [hop]
        exact h1
      | lookup ty x ky ok =>
        rw [hop] at h
        simp only at h
        rw [natR_eq, natR_eq, natR_eq] at h
        obtain ⟨h1, h2⟩ := chkG_ok hs (show chkG (opdS I n x).run _ _ i s ((chkS I n mind ops r).run s kk) = true from h)
        obtain ⟨h3, h4⟩ := chkS_ok hs r h2
        refine ⟨?_, h4⟩
        rw [h3, Bool.and_true]
        simp only [hop]
        exact h1
      | _ =>
        rw [hop] at h
        obtain ⟨h1, h2⟩ := chkS_ok hs r h
        exact ⟨by rw [h1, Bool.and_true]; simp only [hop], h2⟩
noncomputable def lastS (k : E → FH → Bool) (s : List (E × FH)) : Bool := List.rec (motive := fun _ => (E → FH → Bool) → Bool) (fun _ => false) (fun x r ih k => List.rec (motive := fun _ => Bool) (Prod.rec (motive := fun _ => Bool) k x) (fun _ _ _ => ih k) r) s k
theorem lastS_ok {k : E → FH → Bool} : ∀ {s : List (E × FH)}, lastS k s = true → ∃ x, s.getLast? = some x ∧ k x.1 x.2 = true
  | [], h => by cases h
  | [x], h => ⟨x, rfl, h⟩
  | x :: y :: r, h => by
    obtain ⟨z, h1, h2⟩ := lastS_ok (s := y :: r) h
    exact ⟨z, by simpa using h1, h2⟩
theorem TrR.last : ∀ {s : List (E × FH)} {s' : List (List Value × AH)}, TrR I n s s' → ∀ {x y}, s.getLast? = some x → s'.getLast? = some y → REv I n x.1 y.1 ∧ HR x.2 y.2
  | [], _, _, x, y, hx, _ => by cases hx
  | _ :: _, [], h, _, _, _, _ => h.elim
  | [a], [b], h, x, y, hx, hy => by simp at hx hy; subst hx; subst hy; exact h.1
  | [a], b :: c :: s, h, x, y, hx, hy => h.2.elim
  | a :: c :: r, [b], h, x, y, hx, hy => h.2.elim
  | a :: c :: r, b :: d :: s, h, x, y, hx, hy => TrR.last h.2 (by simpa using hx) (by simpa using hy)

/-! ### Regions in an order of their own -/
/-- Where a value points, a row's too, nothing has been written. -/
noncomputable def stillV2 (F F' : FH) (kk : Bool) (v : FV) : Bool := FV.rec (motive_1 := fun _ => Bool) (motive_2 := fun _ => Bool) (fun _ => kk) (fun _ _ => kk) (fun _ => kk) (fun _ _ => kk) (fun c _ => still1 F F' kk c) (fun c _ _ _ => still1 F F' kk c) (fun c => still1 F F' kk c) (fun _ _ => kk) (fun _ _ => kk) (fun _ _ _ => kk) (fun _ _ _ => kk) (fun v => noAddr kk v) false (fun _ _ _ _ => false) v
theorem still1_N {F' : FH} {H' : AH} {c : Nat} {kk : Bool} (hH : HR F H) (hH' : HR F' H') (h : still1 F F' kk c = true) : stillN H H' c = true ∧ kk = true := by
  obtain ⟨⟨b, b', h1, h2, h3, h4⟩, h5⟩ := still1_ok hH hH' h
  exact ⟨by unfold stillN; rw [h1, h2]; simp only [h3, h4]; rfl, h5⟩
theorem stillV2_ok {F' : FH} {H' : AH} {v : FV} {kk : Bool} (hH : HR F H) (hH' : HR F' H') (h : stillV2 F F' kk v = true) : stillP H H' v.val = true ∧ kk = true := by
  cases v with
  | pp c o => exact still1_N hH hH' h
  | ll c o n k => exact still1_N hH hH' h
  | mm c => exact still1_N hH hH' h
  | oo v =>
    have h : noAddr kk v = true := h
    unfold noAddr at h
    split at h
    · cases h
    · cases h
    · cases h
    · rename_i h1 h2 h3
      refine ⟨?_, h⟩
      show stillP H H' v = true
      unfold stillP
      split
      · rename_i a; exact (h1 a rfl).elim
      · rename_i a n k; exact (h3 a n k rfl).elim
      · rename_i r; exact (h2 r rfl).elim
      · rfl
  | _ => exact ⟨rfl, h⟩
theorem evTr_len {ops : Array Oper} {ca : CallA} : ∀ (l : List Oper) (e : List Value) (H : AH) (s : List (List Value × AH)), evTr P ca ops l e H = some s → s.length = l.length + 1
  | [], e, H, s, h => by simp only [evTr, Option.some.injEq] at h; subst h; rfl
  | o :: r, e, H, s, h => by
    simp only [evTr] at h
    split at h
    · split at h
      · obtain ⟨s', h1, rfl⟩ := Option.map_eq_some_iff.1 h
        simp [evTr_len r _ _ s' h1]
      · cases h
    · obtain ⟨s', h1, rfl⟩ := Option.map_eq_some_iff.1 h
      simp [evTr_len r _ _ s' h1]
    · cases h
noncomputable def nextF (F : FH) : Nat := FH.rec (motive := fun _ => Nat) (fun _ n _ => n) F
/-- The same small values. -/
noncomputable def nilO (z : Bool) (w v : Value) : Bool := match w, v with
  | .pointer none, .pointer none => z
  | .slice none n c, .slice none m d => ifK (ifK z (Nat.beq c d)) (Nat.beq n m)
  | _, _ => false
noncomputable def eqFK (ih : Bool) (b a : FV) : Bool := FV.rec (motive_1 := fun _ => Bool) (motive_2 := fun _ => Bool) (fun n => onN (fun m => ifK ih (Nat.beq n m)) false b) (fun _ _ => false) (fun x => onB (fun y => ifK ih (x == y)) false b) (fun _ _ => false)
  (fun c o => onP (fun c' o' => ifK (ifK ih (Nat.beq c c')) (Nat.beq o o')) false b) (fun c o n k => onL (fun c' o' n' k' => ifK (ifK (ifK (ifK ih (Nat.beq c c')) (Nat.beq o o')) (Nat.beq n n')) (Nat.beq k k')) (fun _ => false) false b) (fun _ => false) (fun _ _ => false) (fun _ _ => false) (fun _ _ _ => false) (fun _ _ _ => false)
  (fun v => FV.rec (motive_1 := fun _ => Bool) (motive_2 := fun _ => Bool) (fun _ => false) (fun _ _ => false) (fun _ => false) (fun _ _ => false) (fun _ _ => false) (fun _ _ _ _ => false) (fun _ => false) (fun _ _ => false) (fun _ _ => false) (fun _ _ _ => false) (fun _ _ _ => false) (fun w => nilO ih v w) false (fun _ _ _ _ => false) b) false (fun _ _ _ _ => false) a
theorem eqFK_ok {ih : Bool} {a b : FV} (h : eqFK ih b a = true) : eqV a.val b.val = true ∧ ih = true := by
  cases a with
  | nn n =>
    rcases onN_ok (show onN (fun m => ifK ih (Nat.beq n m)) false b = true from h) with ⟨m, rfl, h⟩ | h
    · obtain ⟨h1, h2⟩ := ifK_ok h
      have h1 := Nat.eq_of_beq_eq_true h1
      subst h1
      exact ⟨by simp [FV.val, eqV], h2⟩
    · cases h
  | bb x =>
    rcases onB_ok (show onB (fun y => ifK ih (x == y)) false b = true from h) with ⟨y, rfl, h⟩ | h
    · obtain ⟨h1, h2⟩ := ifK_ok h
      exact ⟨h1, h2⟩
    · cases h
  | pp c o =>
    rcases onP_ok (show onP (fun c' o' => ifK (ifK ih (Nat.beq c c')) (Nat.beq o o')) false b = true from h) with ⟨c', o', rfl, h⟩ | h
    · obtain ⟨h1, h⟩ := ifK_ok h
      obtain ⟨h2, h3⟩ := ifK_ok h
      exact ⟨by simp only [FV.val, eqV, h1, h2]; rfl, h3⟩
    · cases h
  | ll c o n k =>
    rcases onL_ok (show onL (fun c' o' n' k' => ifK (ifK (ifK (ifK ih (Nat.beq c c')) (Nat.beq o o')) (Nat.beq n n')) (Nat.beq k k')) (fun _ => false) false b = true from h) with ⟨c', o', n', k', rfl, h⟩ | ⟨_, _, h⟩ | h
    · obtain ⟨h1, h⟩ := ifK_ok h
      obtain ⟨h2, h⟩ := ifK_ok h
      obtain ⟨h3, h⟩ := ifK_ok h
      obtain ⟨h4, h5⟩ := ifK_ok h
      exact ⟨by simp only [FV.val, eqV, h1, h2, h3, h4]; rfl, h5⟩
    · cases h
    · cases h
  | oo v =>
    cases b with
    | oo w =>
      have h : nilO ih v w = true := h
      unfold nilO at h
      split at h
      · exact ⟨rfl, h⟩
      · obtain ⟨h1, h⟩ := ifK_ok h
        obtain ⟨h2, h3⟩ := ifK_ok h
        exact ⟨by simp only [FV.val, eqV, h1, h2]; rfl, h3⟩
      · cases h
    | _ => cases h
  | _ => cases h
noncomputable def ldEq (F F' : FH) (v : FV) (ih : Bool) : Bool := onP (fun c o => cellK (fun a => cellK (fun b => eqFK ih b a) F' c o) F c o) false v
theorem ldEq_ok {F' : FH} {H' : AH} {v : FV} {ih : Bool} {t : TypeId} {d : TypeDesc} (hu : P.underlying t = some d) (hd : cellD d = true) (hH : HR F H) (hH' : HR F' H') (h : ldEq F F' v ih = true) : ∃ a, v.val = .pointer (some a) ∧ sameQ P t a H H' = true ∧ ih = true := by
  rcases onP_ok (show onP (fun c o => cellK (fun a => cellK (fun b => eqFK ih b a) F' c o) F c o) false v = true from h) with ⟨c, o, rfl, h⟩ | h
  case inr => cases h
  obtain ⟨C, e, fr, f, h1, h2, h⟩ := cellK_ok hH h
  obtain ⟨D, e', fr', f', h3, h4, h⟩ := cellK_ok hH' h
  obtain ⟨h5, h6⟩ := eqFK_ok h
  refine ⟨⟨c, o, none⟩, rfl, ?_, h6⟩
  unfold sameQ
  simp only [hu, h1, h3, h2, h4, hd, h5]
  rfl
noncomputable def ldAll (F : FH) (v : FV) (s : List (E × FH)) (p : Nat) (kk : Bool) (n : Nat) : Bool := Nat.rec (motive := fun _ => Bool) kk (fun d ih => nthS (fun _ F' => ldEq F F' v ih) s (Nat.add p d)) n
noncomputable def isLd (P : Program) (op : Op) : Bool := match op with
  | .load t _ => (match P.underlying t with
    | some d => cellD d
    | none => false)
  | _ => false
theorem ldAll_ok {s : List (E × FH)} {s' : List (List Value × AH)} {v : FV} {p : Nat} {kk : Bool} {t : TypeId} {d : TypeDesc} (hs : TrR I n s s') (hu : P.underlying t = some d) (hd : cellD d = true) (hH : HR F H) :
    ∀ m, ldAll F v s p kk m = true → (0 < m → ∃ a, v.val = .pointer (some a)) ∧ (∀ a, v.val = .pointer (some a) → (List.range m).all (fun d => match s'[p + d]? with | some b => sameQ P t a H b.2 | none => false) = true) ∧ kk = true
  | 0, h => ⟨fun h => absurd h (by omega), fun _ _ => rfl, h⟩
  | m + 1, h => by
    obtain ⟨x, h1, h2⟩ := nthS_ok (show nthS (fun _ F' => ldEq F F' v (ldAll F v s p kk m)) s (Nat.add p m) = true from h)
    obtain ⟨y, k1, k2, k3⟩ := hs.get _ _ h1
    obtain ⟨a, h3, h4, h5⟩ := ldEq_ok hu hd hH k3 h2
    obtain ⟨g1, g2, g3⟩ := ldAll_ok hs hu hd hH m h5
    refine ⟨fun _ => ⟨a, h3⟩, fun a' ha' => ?_, g3⟩
    rw [h3] at ha'
    cases ha'
    rw [List.range_succ, List.all_append, g2 a h3]
    have k1 : s'[p + m]? = some y := k1
    simp only [List.all_cons, List.all_nil, k1, h4, Bool.and_self]
noncomputable def pcL (b : Bool) (g : E → FV) (p hi : Nat) (s : List (E × FH)) (kk : Bool) : Bool := nthS (fun t F => nthS (fun _ F' => Bool.rec (motive := fun _ => Bool) (Bool.rec (motive := fun _ => Bool) false (ifK (natK (ldAll F (g t) s p kk) (Nat.sub (Nat.succ hi) p)) (Nat.ble p hi)) b) true (stillV2 F F' kk (g t))) s hi) s p
noncomputable def pcF (p p1 hi : Nat) (s : List (E × FH)) (kk : Bool) : Bool := nthS (fun _ F => nthS (fun _ F1 => iteK (nthS (fun _ F2 => still1 F1 F2 kk (nextF F)) s hi) kk (Nat.beq (nextF F1) (nextF F))) s p1) s p
/-- What is to be looked at behind a region: at which place what operation stands, and up to where. -/
noncomputable def pchS (I : EnvI E) (n : Nat) (P : Program) (ops : Array Oper) : Nat → List (Nat × Nat) → ChK E
  | _, [] => ⟨fun _ kk => kk⟩
  | p, ih :: r => match ops[ih.1]? with
    | some o => match lookX P o.op with
      | some x => natR (fun p => natR (fun hi => GetK.rec (motive := fun _ => ChK E) (fun g => ChK.rec (motive := fun _ => ChK E) (fun f => ⟨fun s kk => pcL (isLd P o.op) g p hi s (f s kk)⟩) (pchS I n P ops (p + 1) r)) (opdS I n x)) ih.2) p
      | none => match floatB o.op with
        | true => natR (fun p => natR (fun p1 => natR (fun hi => ChK.rec (motive := fun _ => ChK E) (fun f => ⟨fun s kk => pcF p p1 hi s (f s kk)⟩) (pchS I n P ops (p + 1) r)) ih.2) (p + 1)) p
        | false => pchS I n P ops (p + 1) r
    | none => ⟨fun _ _ => false⟩
theorem pchS_ok {s : List (E × FH)} {s' : List (List Value × AH)} {ops : Array Oper} {kk : Bool} (hs : TrR I n s s') : ∀ (l : List (Nat × Nat)) (p : Nat), (pchS I n P ops p l).run s kk = true →
    (∀ k ih, l[k]? = some ih → ∃ o, ops[ih.1]? = some o ∧ (∀ x, lookX P o.op = some x → ∃ a c, s'[p + k]? = some a ∧ s'[ih.2]? = some c ∧ (stillP a.2 c.2 (rho a.1 x) || sameL P o.op (rho a.1) a.2 s' (p + k) (ih.2 + 1 - (p + k))) = true) ∧
      (floatB o.op = true → ∃ a a' c, s'[p + k]? = some a ∧ s'[p + k + 1]? = some a' ∧ (Nat.beq a'.2.next a.2.next = true ∨ (s'[ih.2]? = some c ∧ stillN a'.2 c.2 a.2.next = true)))) ∧ kk = true
  | [], p, h => ⟨fun k ih hk => by simp at hk, h⟩
  | ih :: r, p, h => by
    unfold pchS at h
    split at h
    case h_2 => cases h
    rename_i o ho
    have fin : ∀ (hx : (∀ x, lookX P o.op = some x → ∃ a c, s'[p]? = some a ∧ s'[ih.2]? = some c ∧ (stillP a.2 c.2 (rho a.1 x) || sameL P o.op (rho a.1) a.2 s' p (ih.2 + 1 - p)) = true))
        (hf : (floatB o.op = true → ∃ a a' c, s'[p]? = some a ∧ s'[p + 1]? = some a' ∧ (Nat.beq a'.2.next a.2.next = true ∨ (s'[ih.2]? = some c ∧ stillN a'.2 c.2 a.2.next = true)))), (pchS I n P ops (p + 1) r).run s kk = true →
        ((∀ k jh, (ih :: r)[k]? = some jh → ∃ o, ops[jh.1]? = some o ∧ (∀ x, lookX P o.op = some x → ∃ a c, s'[p + k]? = some a ∧ s'[jh.2]? = some c ∧ (stillP a.2 c.2 (rho a.1 x) || sameL P o.op (rho a.1) a.2 s' (p + k) (jh.2 + 1 - (p + k))) = true) ∧
          (floatB o.op = true → ∃ a a' c, s'[p + k]? = some a ∧ s'[p + k + 1]? = some a' ∧ (Nat.beq a'.2.next a.2.next = true ∨ (s'[jh.2]? = some c ∧ stillN a'.2 c.2 a.2.next = true)))) ∧ kk = true) := fun hx hf h2 => by
      obtain ⟨h3, h4⟩ := pchS_ok hs r (p + 1) h2
      refine ⟨fun k jh hk => ?_, h4⟩
      cases k with
      | zero =>
        simp only [List.getElem?_cons_zero, Option.some.injEq] at hk
        subst hk
        exact ⟨o, ho, hx, hf⟩
      | succ k =>
        obtain ⟨o', g1, g2, g3⟩ := h3 k jh (by simpa using hk)
        rw [show p + 1 + k = p + (k + 1) by omega] at g2 g3
        exact ⟨o', g1, g2, g3⟩
    split at h
    · rename_i x hx
      rw [natR_eq, natR_eq] at h
      obtain ⟨a, h1, h2⟩ := nthS_ok (show nthS (fun t F => nthS (fun _ F' => Bool.rec (motive := fun _ => Bool) (Bool.rec (motive := fun _ => Bool) false (ifK (natK (ldAll F ((opdS I n x).run t) s p ((pchS I n P ops (p + 1) r).run s kk)) (Nat.sub (Nat.succ ih.2) p)) (Nat.ble p ih.2)) (isLd P o.op)) true (stillV2 F F' ((pchS I n P ops (p + 1) r).run s kk) ((opdS I n x).run t))) s ih.2) s p = true from h)
      obtain ⟨c, h3, h4⟩ := nthS_ok h2
      obtain ⟨a', k1, k2, k3⟩ := hs.get _ _ h1
      obtain ⟨c', l1, l2, l3⟩ := hs.get _ _ h3
      have hnf : floatB o.op = true → False := fun hf => by
        cases hop : o.op <;> rw [hop] at hf hx <;> first | (simp [floatB] at hf; done) | (simp [lookX] at hx; done)
      cases hst : stillV2 a.2 c.2 ((pchS I n P ops (p + 1) r).run s kk) ((opdS I n x).run a.1) with
      | true =>
        obtain ⟨h5, h6⟩ := stillV2_ok k3 l3 hst
        rw [opdS_ok k2] at h5
        refine fin (fun x' hx' => ?_) (fun hf => (hnf hf).elim) h6
        rw [hx] at hx'; cases hx'
        exact ⟨a', c', k1, l1, by rw [h5]; rfl⟩
      | false =>
        rw [hst] at h4
        cases hl : isLd P o.op with
        | false => rw [hl] at h4; cases h4
        | true =>
          rw [hl] at h4
          obtain ⟨hle, h4⟩ := ifK_ok (show ifK (natK (ldAll a.2 ((opdS I n x).run a.1) s p ((pchS I n P ops (p + 1) r).run s kk)) (Nat.sub (Nat.succ ih.2) p)) (Nat.ble p ih.2) = true from h4)
          have hle := Nat.le_of_ble_eq_true hle
          rw [natK_eq] at h4
          unfold isLd at hl
          split at hl
          case h_2 => cases hl
          rename_i t x2 hop
          split at hl
          case h_2 => cases hl
          rename_i d hu
          have hx2 : x2 = x := by rw [hop] at hx; exact Option.some.inj hx
          subst hx2
          obtain ⟨g1, g2, g3⟩ := ldAll_ok hs hu hl k3 _ h4
          refine fin (fun x' hx' => ?_) (fun hf => (hnf hf).elim) g3
          rw [hx] at hx'; cases hx'
          refine ⟨a', c', k1, l1, ?_⟩
          rw [opdS_ok k2] at g1 g2
          obtain ⟨q, hq⟩ := g1 (show 0 < Nat.sub (Nat.succ ih.2) p from Nat.sub_pos_of_lt (Nat.lt_succ_of_le hle))
          rw [Bool.or_eq_true]
          right
          unfold sameL
          simp only [hop, hq]
          exact g2 q hq
    · rename_i hx
      split at h
      · rename_i hf
        rw [natR_eq, natR_eq, natR_eq] at h
        obtain ⟨a, h1, h2⟩ := nthS_ok (show nthS (fun _ F => nthS (fun _ F1 => iteK (nthS (fun _ F2 => still1 F1 F2 ((pchS I n P ops (p + 1) r).run s kk) (nextF F)) s ih.2) ((pchS I n P ops (p + 1) r).run s kk) (Nat.beq (nextF F1) (nextF F))) s (p + 1)) s p = true from h)
        obtain ⟨a1, h3, h4⟩ := nthS_ok h2
        obtain ⟨a', k1, k2, k3⟩ := hs.get _ _ h1
        obtain ⟨a1', l1, l2, l3⟩ := hs.get _ _ h3
        have n1 : nextF a.2 = a'.2.next := k3.next.symm
        have n2 : nextF a1.2 = a1'.2.next := l3.next.symm
        rw [n1, n2] at h4
        rcases iteK_ok h4 with ⟨_, h5⟩ | ⟨h5, h6⟩
        · obtain ⟨c, h7, h8⟩ := nthS_ok h5
          obtain ⟨c', m1, m2, m3⟩ := hs.get _ _ h7
          obtain ⟨h9, h10⟩ := still1_N l3 m3 h8
          exact fin (fun x' hx' => by rw [hx] at hx'; cases hx') (fun _ => ⟨a', a1', c', k1, l1, .inr ⟨m1, h9⟩⟩) h10
        · exact fin (fun x' hx' => by rw [hx] at hx'; cases hx') (fun _ => ⟨a', a1', a1', k1, l1, .inl h5⟩) h6
      · rename_i hf
        exact fin (fun x' hx' => by rw [hx] at hx'; cases hx') (fun hf2 => by rw [hf] at hf2; cases hf2) h
termination_by l => l.length

/-! ### Regions -/
/-- How a region is done: found out ahead. -/
inductive RK where
  | sq
  | tr
  | ld
  | pm (l : List (Nat × Nat))
def rkOk (P : Program) (ff : FuncId → Bool) (ops : Array Oper) (draw : Bool) : RK → Bool
  | .sq => !draw || calmReg ops || oneReg P ops || lateReg P ops false || (manyF P ff ops && noLoads ops)
  | .tr => manyF P ff ops && !(draw && usePerm P ff ops)
  | .ld => (manyReg P ops || lateReg P ops true) && !(draw && usePerm P ff ops)
  | .pm l => draw && usePerm P ff ops && decide (l = (ordOf P ops).map fun i => (i, hiP P ops (ordOf P ops) i))
noncomputable def regS (I : EnvI E) (n : Nat) (P : Program) (ff : FuncId → Bool) (ops : Array Oper) (rk : RK) : OpK E :=
  match rk with
  | .sq => regL I n P ops ops.toList
  | .tr => TrK.rec (motive := fun _ => OpK E) (fun tr => ChK.rec (motive := fun _ => OpK E) (fun ch => ⟨fun call k t F => tr call (fun s => ch s (lastS k s)) t F⟩) (chkS I n (mindF P ff ops) ops (List.range ops.size))) (trL I n P ops ops.toList)
  | .ld => OpK.rec (motive := fun _ => OpK E) (fun f => StK.rec (motive := fun _ => OpK E) (fun st => ⟨fun call k t F => f call (fun t' F' => st F F' t' (k t' F')) t F⟩) (loadsS I n ops.toList)) (regL I n P ops ops.toList)
  | .pm l => TrK.rec (motive := fun _ => OpK E) (fun tr => ChK.rec (motive := fun _ => OpK E) (fun ch => ⟨fun call k t F => tr call (fun s => ch s (lastS k s)) t F⟩) (pchS I n P ops 0 l)) (trL I n P ops ((l.map (·.1)).filterMap (ops[·]?)))
theorem regS_ok {ff : FuncId → Bool} {ops : Array Oper} {draw : Bool} {rk : RK} {call : CallT} {ca : CallA} {k : E → FH → Bool} {t : E} {e : List Value} (hrk : rkOk P ff ops draw rk = true) (hc : CallR call ca) (hr : REv I n t e) (hH : HR F H) (h : (regS I n P ff ops rk).run call k t F = true) :
    ∃ t' e' F' H', evRegion P ff ca ops draw e H = some (e', H') ∧ REv I n t' e' ∧ HR F' H' ∧ k t' F' = true := by
  have old : (calmReg ops || oneReg P ops || lateReg P ops false || (manyF P ff ops && (noLoads ops || flatHere ff ops))) = true ∨ draw = false → (draw && usePerm P ff ops) = false := fun h => by
    rcases h with h | h
    · unfold usePerm; rw [h]; simp
    · rw [h]; rfl
  cases rk with
  | sq =>
    have hs : (!draw || calmReg ops || oneReg P ops || lateReg P ops false || (manyF P ff ops && noLoads ops)) = true := hrk
    obtain ⟨t', e', F', H', h1, h2, h3, h4⟩ := regL_ok hc _ _ _ _ _ hr hH (show (regL I n P ops ops.toList).run call k t F = true from h)
    refine ⟨t', e', F', H', ?_, h2, h3, h4⟩
    unfold evRegion
    rw [old (by
      cases draw with
      | false => exact .inr rfl
      | true =>
        left
        simp only [Bool.not_true, Bool.false_or, Bool.or_eq_true, Bool.and_eq_true] at hs ⊢
        rcases hs with ((h | h) | h) | h
        · simp [h]
        · simp [h]
        · simp [h]
        · simp [h.1, h.2])]
    simp only [cond_false]
    unfold evRegionT
    rw [h1]
    simp only
    rw [show (!draw || calmReg ops || oneReg P ops || (manyReg P ops && stillAll ops e' H H') || lateReg P ops false || (lateReg P ops true && stillAll ops e' H H') || (manyF P ff ops && (noLoads ops || stillW P ca (mindF P ff ops) ops e H))) = true by
      revert hs
      generalize (!draw || calmReg ops || oneReg P ops) = a
      generalize lateReg P ops false = b
      generalize manyF P ff ops = c
      generalize noLoads ops = d
      cases a <;> cases b <;> cases c <;> cases d <;> simp]
    rfl
  | tr =>
    have hm0 : (manyF P ff ops && !(draw && usePerm P ff ops)) = true := hrk
    have hm : manyF P ff ops = true := (Bool.and_eq_true_iff.1 hm0).1
    have hnp : (draw && usePerm P ff ops) = false := by
      have := (Bool.and_eq_true_iff.1 hm0).2
      cases hdr : (draw && usePerm P ff ops) with
      | false => rfl
      | true => rw [hdr] at this; cases this
    obtain ⟨s, s', e', H', h1, h2, h3, h4, h5⟩ := trL_ok hc _ _ _ _ _ _ hr hH (show (trL I n P ops ops.toList).run call (fun s => (chkS I n (mindF P ff ops) ops (List.range ops.size)).run s (lastS k s)) t F = true from h)
    obtain ⟨h6, h7⟩ := chkS_ok h3 _ h5
    obtain ⟨x, h8, h9⟩ := lastS_ok h7
    obtain ⟨h10, h11⟩ := h3.last h8 h4
    refine ⟨x.1, e', x.2, H', ?_, h10, h11, h9⟩
    unfold evRegion
    rw [hnp]
    simp only [cond_false]
    unfold evRegionT
    rw [h1]
    simp only
    have hw : stillW P ca (mindF P ff ops) ops e H = true := by
      unfold stillW
      rw [h2]
      exact h6
    rw [show (!draw || calmReg ops || oneReg P ops || (manyReg P ops && stillAll ops e' H H') || lateReg P ops false || (lateReg P ops true && stillAll ops e' H H') || (manyF P ff ops && (noLoads ops || stillW P ca (mindF P ff ops) ops e H))) = true by rw [hm, hw]; simp]
    rfl
  | ld =>
    have hrk : ((manyReg P ops || lateReg P ops true) && !(draw && usePerm P ff ops)) = true := hrk
    have hm : (manyReg P ops || lateReg P ops true) = true := (Bool.and_eq_true_iff.1 hrk).1
    have hnp : (draw && usePerm P ff ops) = false := by
      have := (Bool.and_eq_true_iff.1 hrk).2
      cases hdr : (draw && usePerm P ff ops) with
      | false => rfl
      | true => rw [hdr] at this; cases this
    obtain ⟨t', e', F', H', h1, h2, h3, h4⟩ := regL_ok hc _ _ _ _ _ hr hH (show (regL I n P ops ops.toList).run call (fun t' F' => (loadsS I n ops.toList).run F F' t' (k t' F')) t F = true from h)
    obtain ⟨h5, h6⟩ := loadsS_ok h2 hH h3 _ h4
    refine ⟨t', e', F', H', ?_, h2, h3, h6⟩
    have hm2 : manyReg P ops = true ∨ lateReg P ops true = true := (Bool.or_eq_true _ _ ▸ hm : manyReg P ops = true ∨ lateReg P ops true = true)
    unfold evRegion
    rw [hnp]
    simp only [cond_false]
    unfold evRegionT
    rw [h1]
    simp only
    have hst : stillAll ops e' H H' = true := h5
    rw [show (!draw || calmReg ops || oneReg P ops || (manyReg P ops && stillAll ops e' H H') || lateReg P ops false || (lateReg P ops true && stillAll ops e' H H') || (manyF P ff ops && (noLoads ops || stillW P ca (mindF P ff ops) ops e H))) = true by
      rw [hst]
      rcases hm2 with h | h <;> rw [h] <;> simp]
    rfl
  | pm l =>
    have hm : (draw && usePerm P ff ops && decide (l = (ordOf P ops).map fun i => (i, hiP P ops (ordOf P ops) i))) = true := hrk
    simp only [Bool.and_eq_true, decide_eq_true_eq] at hm
    obtain ⟨⟨hd, hup⟩, hl⟩ := hm
    have hl1 : l.map (·.1) = ordOf P ops := by rw [hl]; simp [Function.comp_def]
    obtain ⟨s, s', e', H', h1, h2, h3, h4, h5⟩ := trL_ok hc _ _ _ _ _ _ hr hH (show (trL I n P ops ((l.map (·.1)).filterMap (ops[·]?))).run call (fun s => (pchS I n P ops 0 l).run s (lastS k s)) t F = true from h)
    obtain ⟨h6, h7⟩ := pchS_ok h3 l 0 h5
    obtain ⟨x, h8, h9⟩ := lastS_ok h7
    obtain ⟨h10, h11⟩ := h3.last h8 h4
    refine ⟨x.1, e', x.2, H', ?_, h10, h11, h9⟩
    rw [hl1] at h1 h2
    have ho := permOk_spec (ord := ordOf P ops) (by unfold usePerm at hup; rw [Bool.and_eq_true] at hup; exact hup.2)
    unfold evRegion
    rw [hd, hup]
    simp only [Bool.and_self, cond_true]
    unfold permA
    rw [h2, h1]
    simp only
    have hlen := evTr_len _ _ _ _ h2
    have hfl : ((ordOf P ops).filterMap (ops[·]?)).length = ops.size := by
      have hget := filterMap_ord (ops := ops) (ord := ordOf P ops) fun p i hp => (ho.of p i hp).1
      have a2 : ((ordOf P ops).filterMap (ops[·]?)).length ≤ (ordOf P ops).length := List.length_filterMap_le _ _
      rw [ho.len] at a2
      rcases Nat.lt_or_ge ((ordOf P ops).filterMap (ops[·]?)).length ops.size with h | h
      · exfalso
        have hp2 : ((ordOf P ops).filterMap (ops[·]?)).length < (ordOf P ops).length := by rw [ho.len]; exact h
        have g := hget ((ordOf P ops).filterMap (ops[·]?)).length
        rw [List.getElem?_eq_none (Nat.le_refl _), List.getElem?_eq_getElem hp2] at g
        have g2 := (ho.of _ _ (List.getElem?_eq_getElem hp2)).1
        simp only [Option.bind_some, Array.getElem?_eq_getElem g2] at g
        cases g
      · omega
    rw [hfl] at hlen
    have hchk : permChk P ops (ordOf P ops) s' = true := by
      unfold permChk
      rw [List.all_eq_true]
      intro p hp
      rw [List.mem_range] at hp
      have hpo : p < (ordOf P ops).length := by rw [ho.len]; exact hp
      have g0 := List.getElem?_eq_getElem hpo
      generalize hi : (ordOf P ops)[p] = i at g0
      have hlp : l[p]? = some (i, hiP P ops (ordOf P ops) i) := by rw [hl, List.getElem?_map, g0]; rfl
      obtain ⟨o, g1, g2, g3⟩ := h6 p _ hlp
      rw [Nat.zero_add] at g2 g3
      have hhi := (hiP_spec (P := P) (ops := ops) (ordOf P ops) i).1
      have q1 : s'[p]? = some s'[p] := List.getElem?_eq_getElem (by omega)
      have q2 : s'[p + 1]? = some s'[p + 1] := List.getElem?_eq_getElem (by omega)
      have q3 : s'[hiP P ops (ordOf P ops) i]? = some s'[hiP P ops (ordOf P ops) i] := List.getElem?_eq_getElem (by omega)
      rw [g0, q1, q2]
      simp only at g1 ⊢
      rw [g1]
      simp only
      rw [q3]
      simp only
      rw [Bool.and_eq_true]
      constructor
      · cases hx : lookX P o.op with
        | none => rfl
        | some x =>
          obtain ⟨a, c, k1, k2, k3⟩ := g2 x hx
          rw [q1] at k1; cases k1
          simp only at k2
          rw [q3] at k2; cases k2
          exact k3
      · cases hf : floatB o.op with
        | false => rfl
        | true =>
          obtain ⟨a, a', c, k1, k2, k3⟩ := g3 hf
          rw [q1] at k1; cases k1
          rw [q2] at k2; cases k2
          rcases k3 with k3 | ⟨k3, k4⟩
          · rw [k3]; rfl
          · simp only at k3
            rw [q3] at k3; cases k3
            rw [k4]; simp
    rw [hchk]
    rfl
end
end Go.Proofs.YtenolmhnmcjndaaGreatDoor.Ev
namespace Go.Proofs.YtenolmhnmcjndaaGreatDoor.Ev
set_option linter.unusedVariables false
set_option linter.unusedSimpArgs false
open Go
structure CodeK (E : Type) where
  run : CallT → Nat → (E → FH → Bool) → (Nat → E → FH → Bool) → (E → FH → Bool) → E → FH → Bool
section
variable {E : Type} {I : EnvI E} {n : Nat} {P : Program} {F : FH} {H : AH}

noncomputable def blkX (id : Nat) (kn : E → FH → Bool) (kx : Nat → E → FH → Bool) (i : Nat) (t : E) (F : FH) : Bool := iteK (kx i t F) (kn t F) (Nat.beq i id)
noncomputable def loopK (f : CallT → Nat → (E → FH → Bool) → (Nat → E → FH → Bool) → (E → FH → Bool) → E → FH → Bool) (call : CallT) (N : Nat) (kx : Nat → E → FH → Bool) (kr : E → FH → Bool) (m : Nat) : E → FH → Bool :=
  Nat.rec (motive := fun _ => E → FH → Bool) (fun _ _ => false) (fun _ lp t F => f call N lp kx kr t F) m
/-- Of a function's regions: how each is done. -/
abbrev RT := List (Nat × RK)
noncomputable def rkOf (T : RT) (id : Nat) : RK := List.rec (motive := fun _ => RK) .sq (fun p _ ih => Bool.rec (motive := fun _ => RK) ih p.2 (Nat.beq p.1 id)) T
noncomputable def chkCode (P : Program) (ff : FuncId → Bool) (T : RT) : Code → Bool
  | .region id ops d => rkOk P ff ops d (rkOf T id)
  | .seq a b => chkCode P ff T a && chkCode P ff T b
  | .cond _ x y => chkCode P ff T x && chkCode P ff T y
  | .block _ c => chkCode P ff T c
  | .loop c => chkCode P ff T c
  | .scope c => chkCode P ff T c
  | .rangeFunc _ _ a b => chkCode P ff T a && chkCode P ff T b
  | _ => true
/-- The rounds of a range over slices.Backward's function. -/
noncomputable def backK (rd : Nat → FV → (FH → Bool) → FH → Bool) (bk bo a0 o0 len : Nat) (kn : FH → Bool) (k : Nat) : FH → Bool :=
  Nat.rec (motive := fun _ => FH → Bool) (fun F => kn F) (fun k ih F => cellK (onL (fun c o n _ => ifK (ifK (ifK (cellK (fun v => onN (fun _ => rd k v ih F) false v) F c (Nat.add o k)) (Nat.beq n len)) (Nat.beq o o0)) (Nat.beq c a0)) (fun _ => false) false) F bk bo) k
noncomputable def nilS0 (z : Bool) (w : Value) : Bool := match w with
  | .slice none 0 _ => z
  | _ => false
noncomputable def rangeK (P : Program) (rd : Nat → FV → (FH → Bool) → FH → Bool) (kn : FH → Bool) (F : FH) (g : FV) : Bool :=
  onF (fun f cs => List.rec (motive := fun _ => Bool) false (fun b r _ => List.rec (motive := fun _ => Bool) (ifK (onP (fun bk bo => cellK (onL (fun a o len _ => ifK (backK rd bk bo a o len kn len F) (Nat.ble len 140737488355328)) (nilS0 (kn F)) false) F bk bo) false b) (isBack P f)) (fun _ _ _ => false) r) cs) false g
theorem backK_ok {rd : Nat → FV → (FH → Bool) → FH → Bool} {ra : Nat → Value → AH → Option AH} {kn : FH → Bool} (hrd : ∀ i v k F H, HR F H → rd i v k F = true → ∃ F' H', ra i v.val H = some H' ∧ HR F' H' ∧ k F' = true) {bk bo a0 o0 len : Nat} : ∀ (k : Nat) (F : FH) (H : AH), HR F H → backK rd bk bo a0 o0 len kn k F = true →
    ∃ F' H', backA ra ⟨bk, bo, none⟩ (some ⟨a0, o0, none⟩) len k H = some H' ∧ HR F' H' ∧ kn F' = true
  | 0, F, H, hH, h => ⟨F, H, rfl, hH, h⟩
  | k + 1, F, H, hH, h => by
    obtain ⟨C, e, fr, f, h1, h2, h3⟩ := cellK_ok hH (show cellK (onL (fun c o n _ => ifK (ifK (ifK (cellK (fun v => onN (fun _ => rd k v (backK rd bk bo a0 o0 len kn k) F) false v) F c (Nat.add o k)) (Nat.beq n len)) (Nat.beq o o0)) (Nat.beq c a0)) (fun _ => false) false) F bk bo = true from h)
    rcases onL_ok h3 with ⟨c, o, n, cp, rfl, g⟩ | ⟨_, _, g⟩ | g
    case inr.inl => cases g
    case inr.inr => cases g
    obtain ⟨e1, g⟩ := ifK_ok g
    obtain ⟨e2, g⟩ := ifK_ok g
    obtain ⟨e3, g⟩ := ifK_ok g
    obtain rfl := Nat.eq_of_beq_eq_true e1
    obtain rfl := Nat.eq_of_beq_eq_true e2
    obtain rfl := Nat.eq_of_beq_eq_true e3
    obtain ⟨C2, t2, fr2, f2, h4, h5, h6⟩ := cellK_ok hH g
    rcases onN_ok h6 with ⟨x, rfl, g2⟩ | g2
    case inr => cases g2
    obtain ⟨F1, H1, h7, h8, h9⟩ := hrd _ _ _ _ _ hH g2
    obtain ⟨F', H', h10, h11, h12⟩ := backK_ok hrd k F1 H1 h8 h9
    refine ⟨F', H', ?_, h11, h12⟩
    have c1 : cellA H ⟨bk, bo, none⟩ = some (.slice (some ⟨c, o, none⟩) n cp) := by unfold cellA; simp only [h1]; exact h2
    have c2 : cellA H (Addr.add ⟨c, o, none⟩ k) = some (.int .i64 (Int.ofNat x)) := by rw [add_none rfl]; unfold cellA; simp only [h4]; exact h5
    unfold backA
    rw [c1]
    have hss : sameS (some ⟨c, o, none⟩) n (some (.slice (some ⟨c, o, none⟩) n cp)) = true := by simp [sameS]
    simp only [hss, c2]
    rw [show ra k (Value.int .i64 (Int.ofNat x)) H = some H1 from h7]
    exact h10
theorem rangeK_ok {rd : Nat → FV → (FH → Bool) → FH → Bool} {ra : Nat → Value → AH → Option AH} {p0 p1 : Tmp} {ra2 : Tmp → Tmp → Nat → Value → AH → Option AH} (hra : ra2 p0 p1 = ra) {kn : FH → Bool} (hrd : ∀ i v k F H, HR F H → rd i v k F = true → ∃ F' H', ra i v.val H = some H' ∧ HR F' H' ∧ k F' = true) {g : FV} (hH : HR F H) (h : rangeK P rd kn F g = true) :
    ∃ F' H', rangeA P ra2 true g.val [p0, p1] H = some H' ∧ HR F' H' ∧ kn F' = true := by
  rcases onF_ok h with ⟨f, cs, rfl, g⟩ | g
  case inr => cases g
  match cs, g with
  | [b], g =>
    obtain ⟨hb, g⟩ := ifK_ok (show ifK (onP (fun bk bo => cellK (onL (fun a o len _ => ifK (backK rd bk bo a o len kn len F) (Nat.ble len 140737488355328)) (nilS0 (kn F)) false) F bk bo) false b) (isBack P f) = true from g)
    rcases onP_ok g with ⟨bk, bo, rfl, g⟩ | g
    case inr => cases g
    obtain ⟨C, e, fr, f2, h1, h2, h3⟩ := cellK_ok hH g
    have hv : (FV.ff f [.pp bk bo]).val = .func (.func f) #[] #[.pointer (some ⟨bk, bo, none⟩)] := rfl
    rw [hv]
    have c1 : cellA H ⟨bk, bo, none⟩ = some f2.val := by unfold cellA; simp only [h1]; exact h2
    rcases onL_ok h3 with ⟨a, o, len, cp, rfl, g⟩ | ⟨w, rfl, g⟩ | g
    case inr.inr => cases g
    · obtain ⟨hl, g⟩ := ifK_ok g
      obtain ⟨F', H', h4, h5, h6⟩ := backK_ok hrd len F H hH g
      exact ⟨F', H', rangeA_of hb c1 (Nat.le_of_ble_eq_true hl) (by rw [hra]; exact h4), h5, h6⟩
    · unfold nilS0 at g
      split at g
      · exact ⟨F, H, rangeA_of (len := 0) hb c1 (Nat.zero_le _) rfl, hH, g⟩
      · cases g
  | [], g => cases g
  | _ :: _ :: _, g => cases g
noncomputable def codeS (I : EnvI E) (n : Nat) (P : Program) (ff : FuncId → Bool) (T : RT) : Code → CodeK E
  | .skip => ⟨fun _ _ kn _ _ t F => kn t F⟩
  | .region id ops d => OpK.rec (motive := fun _ => CodeK E) (fun f => ⟨fun call _ kn _ _ t F => f call kn t F⟩) (regS I n P ff ops (rkOf T id))
  | .seq a b => CodeK.rec (motive := fun _ => CodeK E) (fun fa => CodeK.rec (motive := fun _ => CodeK E) (fun fb => ⟨fun call N kn kx kr t F => fa call N (fb call N kn kx kr) kx kr t F⟩) (codeS I n P ff T b)) (codeS I n P ff T a)
  | .cond c x y => GetK.rec (motive := fun _ => CodeK E) (fun g => CodeK.rec (motive := fun _ => CodeK E) (fun fx => CodeK.rec (motive := fun _ => CodeK E) (fun fy => ⟨fun call N kn kx kr t F => onB (iteK (fy call N kn kx kr t F) (fx call N kn kx kr t F)) false (g t)⟩) (codeS I n P ff T y)) (codeS I n P ff T x)) (opdS I n c)
  | .block id c => natR (fun id => CodeK.rec (motive := fun _ => CodeK E) (fun f => ⟨fun call N kn kx kr t F => f call N kn (blkX id kn kx) kr t F⟩) (codeS I n P ff T c)) id
  | .loop c => CodeK.rec (motive := fun _ => CodeK E) (fun f => ⟨fun call N kn kx kr t F => loopK f call N kx kr N t F⟩) (codeS I n P ff T c)
  | .exit id => natR (fun id => ⟨fun _ _ _ kx _ t F => kx id t F⟩) id
  | .ret => ⟨fun _ _ _ _ kr t F => kr t F⟩
  | .scope c => codeS I n P ff T c
  | .rangeFunc g ps asg body => match ps.toList, plainC asg && plainC body with
    | [p0, p1], true => GetK.rec (motive := fun _ => CodeK E) (fun gg => CodeK.rec (motive := fun _ => CodeK E) (fun fa => CodeK.rec (motive := fun _ => CodeK E) (fun fb => PutK.rec (motive := fun _ => CodeK E) (fun r0 => PutK.rec (motive := fun _ => CodeK E) (fun r1 =>
        ⟨fun call N kn _ _ t F => rangeK P (fun i v k F => r0 (fun t1 => r1 (fun t2 => fa call N (fun t3 F3 => fb call N (fun _ F4 => k F4) (fun _ _ _ => false) (fun _ _ => false) t3 F3) (fun _ _ _ => false) (fun _ _ => false) t2 F) v t1) (.nn i) t) (kn t) F (gg t)⟩)
        (putS I n (some p1))) (putS I n (some p0))) (codeS I n P ff T body)) (codeS I n P ff T asg)) (opdS I n g)
    | _, _ => ⟨fun _ _ _ _ _ _ _ => false⟩
  | _ => ⟨fun _ _ _ _ _ _ _ => false⟩
def StQ (kn : E → FH → Bool) (kx : Nat → E → FH → Bool) (kr : E → FH → Bool) (t : E) (F : FH) : St → Bool
  | .nx => kn t F
  | .ex i => kx i t F
  | .rt => kr t F
theorem codeS_ok {ff : FuncId → Bool} {T : RT} {call : CallT} {ca : CallA} {N : Nat} (hc : CallR call ca) (c : Code) : chkCode P ff T c = true → ∀ (kn : E → FH → Bool) (kx : Nat → E → FH → Bool) (kr : E → FH → Bool) (t : E) (e : List Value) (F : FH) (H : AH), REv I n t e → HR F H → (codeS I n P ff T c).run call N kn kx kr t F = true →
    ∃ st t' e' F' H', evCode P (evRegion P ff ca) N c e H = some (st, e', H') ∧ REv I n t' e' ∧ HR F' H' ∧ StQ kn kx kr t' F' st = true := by
  induction c with
  | skip => intro _ kn kx kr t e F H hr hH h; exact ⟨.nx, t, e, F, H, rfl, hr, hH, h⟩
  | region id ops d =>
    intro hT kn kx kr t e F H hr hH h
    obtain ⟨t', e', F', H', h1, h2, h3, h4⟩ := regS_ok (show rkOk P ff ops d (rkOf T id) = true from hT) hc hr hH (show (regS I n P ff ops (rkOf T id)).run call kn t F = true from h)
    exact ⟨.nx, t', e', F', H', by simp only [evCode, h1], h2, h3, h4⟩
  | seq a b iha ihb =>
    intro hT kn kx kr t e F H hr hH h
    have hT := Bool.and_eq_true_iff.1 (show (chkCode P ff T a && chkCode P ff T b) = true from hT)
    replace iha := iha hT.1
    replace ihb := ihb hT.2
    obtain ⟨st, t', e', F', H', h1, h2, h3, h4⟩ := iha ((codeS I n P ff T b).run call N kn kx kr) kx kr t e F H hr hH h
    cases st with
    | nx =>
      obtain ⟨st2, t2, e2, F2, H2, h5, h6, h7, h8⟩ := ihb kn kx kr t' e' F' H' h2 h3 h4
      exact ⟨st2, t2, e2, F2, H2, by simp only [evCode, h1, h5], h6, h7, h8⟩
    | ex i => exact ⟨.ex i, t', e', F', H', by simp only [evCode, h1], h2, h3, h4⟩
    | rt => exact ⟨.rt, t', e', F', H', by simp only [evCode, h1], h2, h3, h4⟩
  | cond c x y ihx ihy =>
    intro hT kn kx kr t e F H hr hH h
    have hT := Bool.and_eq_true_iff.1 (show (chkCode P ff T x && chkCode P ff T y) = true from hT)
    replace ihx := ihx hT.1
    replace ihy := ihy hT.2
    rcases onB_ok (show onB (iteK ((codeS I n P ff T y).run call N kn kx kr t F) ((codeS I n P ff T x).run call N kn kx kr t F)) false ((opdS I n c).run t) = true from h) with ⟨b, hb, g⟩ | g
    · have hv : rho e c = .bool b := by rw [← opdS_ok hr, hb]; rfl
      rcases iteK_ok g with ⟨rfl, g1⟩ | ⟨rfl, g1⟩
      · obtain ⟨st, t', e', F', H', h1, h2⟩ := ihy kn kx kr t e F H hr hH g1
        exact ⟨st, t', e', F', H', by simp only [evCode, hv, h1], h2⟩
      · obtain ⟨st, t', e', F', H', h1, h2⟩ := ihx kn kx kr t e F H hr hH g1
        exact ⟨st, t', e', F', H', by simp only [evCode, hv, h1], h2⟩
    · cases g
  | block id c ih =>
    intro hT kn kx kr t e F H hr hH h
    replace ih := ih hT
    unfold codeS at h
    rw [natR_eq] at h
    obtain ⟨st, t', e', F', H', h1, h2, h3, h4⟩ := ih kn (blkX id kn kx) kr t e F H hr hH h
    cases st with
    | nx => exact ⟨.nx, t', e', F', H', by simp only [evCode, h1], h2, h3, h4⟩
    | rt => exact ⟨.rt, t', e', F', H', by simp only [evCode, h1], h2, h3, h4⟩
    | ex i =>
      rcases iteK_ok (show iteK (kx i t' F') (kn t' F') (Nat.beq i id) = true from h4) with ⟨g1, g2⟩ | ⟨g1, g2⟩
      · have hne : ¬ i = id := fun e0 => by rw [e0, Nat.beq_refl] at g1; cases g1
        exact ⟨.ex i, t', e', F', H', by simp only [evCode, h1, if_neg hne], h2, h3, g2⟩
      · have he : i = id := Nat.eq_of_beq_eq_true g1
        exact ⟨.nx, t', e', F', H', by simp only [evCode, h1, if_pos he], h2, h3, g2⟩
  | loop c ih =>
    intro hT kn kx kr t e F H hr hH h
    replace ih := ih hT
    have key : ∀ (m : Nat) (t : E) (e : List Value) (F : FH) (H : AH), REv I n t e → HR F H → loopK (codeS I n P ff T c).run call N kx kr m t F = true → ∃ st t' e' F' H', loopA (evCode P (evRegion P ff ca) N c) m e H = some (st, e', H') ∧ REv I n t' e' ∧ HR F' H' ∧ StQ kn kx kr t' F' st = true := fun m => by
      induction m with
      | zero => intro t e F H _ _ h; cases h
      | succ m ihm =>
        intro t e F H hr hH h
        obtain ⟨st, t', e', F', H', h1, h2, h3, h4⟩ := ih (loopK (codeS I n P ff T c).run call N kx kr m) kx kr t e F H hr hH h
        cases st with
        | nx =>
          obtain ⟨st2, t2, e2, F2, H2, h5, h6, h7, h8⟩ := ihm t' e' F' H' h2 h3 h4
          exact ⟨st2, t2, e2, F2, H2, by simp only [loopA, h1, h5], h6, h7, h8⟩
        | ex i => exact ⟨.ex i, t', e', F', H', by simp only [loopA, h1], h2, h3, h4⟩
        | rt => exact ⟨.rt, t', e', F', H', by simp only [loopA, h1], h2, h3, h4⟩
    exact key N t e F H hr hH h
  | exit id =>
    intro hT kn kx kr t e F H hr hH h
    unfold codeS at h
    rw [natR_eq] at h
    exact ⟨.ex id, t, e, F, H, rfl, hr, hH, h⟩
  | ret => intro _ kn kx kr t e F H hr hH h; exact ⟨.rt, t, e, F, H, rfl, hr, hH, h⟩
  | scope c ih =>
    intro hT kn kx kr t e F H hr hH h
    replace ih := ih hT
    obtain ⟨st, t', e', F', H', h1, h2⟩ := ih kn kx kr t e F H hr hH h
    exact ⟨st, t', e', F', H', by simp only [evCode, h1], h2⟩
  | rangeFunc g ps asg body iha ihb =>
    intro hT kn kx kr t e F H hr hH h
    have hT := Bool.and_eq_true_iff.1 (show (chkCode P ff T asg && chkCode P ff T body) = true from hT)
    replace iha := iha hT.1
    replace ihb := ihb hT.2
    unfold codeS at h
    split at h
    case h_2 => cases h
    rename_i p0 p1 hps hpl
    have h : rangeK P (fun i v k F => (putS I n (some p0)).run (fun t1 => (putS I n (some p1)).run (fun t2 => (codeS I n P ff T asg).run call N (fun t3 F3 => (codeS I n P ff T body).run call N (fun _ F4 => k F4) (fun _ _ _ => false) (fun _ _ => false) t3 F3) (fun _ _ _ => false) (fun _ _ => false) t2 F) v t1) (.nn i) t) (kn t) F ((opdS I n g).run t) = true := h
    obtain ⟨F', H', h1, h2, h3⟩ := rangeK_ok (p0 := p0) (p1 := p1) (ra2 := roundA P (evRegion P ff ca) N asg body e) rfl (fun i v k F H hH hh => by
      obtain ⟨t1, k1, k2⟩ := putS_ok hr hh
      obtain ⟨t2, k3, k4⟩ := putS_ok k2 k1
      obtain ⟨st, t3, e3, F3, H3, k5, k6, k7, k8⟩ := iha _ _ _ t2 _ F H k4 hH k3
      cases st with
      | ex i => cases k8
      | rt => cases k8
      | nx =>
        obtain ⟨st, t4, e4, F4, H4, l5, l6, l7, l8⟩ := ihb _ _ _ t3 _ F3 H3 k6 k7 k8
        cases st with
        | ex i => cases l8
        | rt => cases l8
        | nx => exact ⟨F4, H4, roundA_of k5 l5, l7, l8⟩) hH h
    refine ⟨.nx, t, e, F', H', ?_, hr, h2, h3⟩
    rw [evCode_range, hps, hpl, ← opdS_ok hr g, h1]
    rfl
  | _ => intro _ kn kx kr t e F H hr hH h; simp only [codeS] at h; cases h

/-! ### Arguments -/
structure PutsK (E : Type) where
  run : (E → Bool) → List FV → E → Bool
noncomputable def putsS (I : EnvI E) (n : Nat) : Nat → Nat → PutsK E
  | 0, _ => ⟨fun k args t => List.rec (motive := fun _ => Bool) (k t) (fun _ _ _ => false) args⟩
  | m + 1, i => match Nat.blt i n with
    | true => PutK.rec (motive := fun _ => PutsK E) (fun p => PutsK.rec (motive := fun _ => PutsK E) (fun r => ⟨fun k args t => List.rec (motive := fun _ => Bool) (k t) (fun a rest _ => p (r k rest) a t) args⟩) (putsS I n m (i + 1))) (putS I n (some i))
    | false => ⟨fun k args t => List.rec (motive := fun _ => Bool) (k t) (fun _ _ _ => false) args⟩
theorem putsS_ok : ∀ (m i : Nat) (k : E → Bool) (args : List FV) (t : E) (e0 : List Value), e0.length = i → i ≤ n → REv I n t (e0 ++ List.replicate (n - i) undef) → (putsS I n m i).run k args t = true →
    ∃ t', (e0 ++ FV.vals args).length ≤ n ∧ REv I n t' (e0 ++ FV.vals args ++ List.replicate (n - (e0 ++ FV.vals args).length) undef) ∧ k t' = true
  | 0, i, k, args, t, e0, h0, hi, hr, h => by
    cases args with
    | nil => exact ⟨t, by simp [FV.vals, h0, hi], by simpa [FV.vals, h0] using hr, h⟩
    | cons => cases h
  | m + 1, i, k, args, t, e0, h0, hi, hr, h => by
    unfold putsS at h
    split at h
    · rename_i hb
      have hin : i < n := by simpa using hb
      cases args with
      | nil => exact ⟨t, by simp [FV.vals, h0, hi], by simpa [FV.vals, h0] using hr, h⟩
      | cons a rest =>
        obtain ⟨t1, h1, h2⟩ := putS_ok hr (show (putS I n (some i)).run ((putsS I n m (i + 1)).run k rest) a t = true from h)
        have e1 : putE (e0 ++ List.replicate (n - i) undef) (some i) a.val = (e0 ++ [a.val]) ++ List.replicate (n - (i + 1)) undef := by
          show (e0 ++ List.replicate (n - i) undef).set i a.val = _
          rw [List.set_append_right _ _ (by omega), h0, Nat.sub_self, show n - i = (n - (i + 1)) + 1 by omega, List.replicate_succ, List.set_cons_zero]
          simp
        rw [e1] at h2
        obtain ⟨t', h3, h4, h5⟩ := putsS_ok m (i + 1) k rest t1 (e0 ++ [a.val]) (by simp [h0]) hin h2 h1
        exact ⟨t', by simpa [FV.vals] using h3, by simpa [FV.vals] using h4, h5⟩
    · cases args with
      | nil => exact ⟨t, by simp [FV.vals, h0, hi], by simpa [FV.vals, h0] using hr, h⟩
      | cons => cases h

/-! ### Results -/
structure ResK (E : Type) where
  run : (List FV → FH → Bool) → E → FH → Bool
noncomputable def loadO (t : TypeId) (a : Tmp) : Oper := { dst := none, op := .load t (.tmp a), type := t, pos := "", after := #[], guard := none }
noncomputable def resS (I : EnvI E) (n : Nat) (P : Program) : List ResultVar → ResK E
  | [] => ⟨fun k _ F => k [] F⟩
  | .tmp i :: r => GetK.rec (motive := fun _ => ResK E) (fun g => ResK.rec (motive := fun _ => ResK E) (fun f => ⟨fun k t F => f (fun l F => k (g t :: l) F) t F⟩) (resS I n P r)) (opdS I n (.tmp i))
  | .cell a ty :: r => BodyK.rec (motive := fun _ => ResK E) (fun b => ResK.rec (motive := fun _ => ResK E) (fun f => ⟨fun k t F => b (fun _ _ _ _ => false) (fun v F => f (fun l F => k (v :: l) F) t F) t F⟩) (resS I n P r)) (loadS I n P ty (.tmp a))
theorem resS_ok : ∀ (l : List ResultVar) (k : List FV → FH → Bool) (t : E) (e : List Value) (F : FH) (H : AH), REv I n t e → HR F H → (resS I n P l).run k t F = true → ∃ vs F', l.mapM (resA P e H) = some (FV.vals vs) ∧ HR F' H ∧ k vs F' = true
  | [], k, t, e, F, H, hr, hH, h => ⟨[], F, rfl, hH, h⟩
  | .tmp i :: r, k, t, e, F, H, hr, hH, h => by
    obtain ⟨vs, F', h1, h2, h3⟩ := resS_ok r _ t e F H hr hH (show (resS I n P r).run (fun l F => k ((opdS I n (.tmp i)).run t :: l) F) t F = true from h)
    refine ⟨_, F', ?_, h2, h3⟩
    have e1 : resA P e H (.tmp i) = some ((opdS I n (.tmp i)).run t).val := by rw [opdS_ok hr]; rfl
    rw [List.mapM_cons, e1, h1]; rfl
  | .cell a ty :: r, k, t, e, F, H, hr, hH, h => by
    have hb : (loadS I n P ty (.tmp a)).run (fun _ _ _ _ => false) (fun v F => (resS I n P r).run (fun l F => k (v :: l) F) t F) t F = true := h
    obtain ⟨v, F1, H1, g1, g2, g3⟩ := loadS_ok (o := loadO ty a) rfl (fun _ _ _ _ => false) (fun _ _ _ => none) t e F H _ (fun f args k F H _ h => by cases h) hr hH hb
    have g4 : H1 = H ∧ resA P e H (.cell a ty) = some v.val := by
      unfold evOp at g1
      simp only [loadO] at g1
      simp only [resA]
      have e2 : rho e (.tmp a) = e.getD a undef := rfl
      rw [e2] at g1
      split at g1
      · rename_i p hp
        try rw [hp]
        cases hl : loadA P H ty p with
        | none => rw [hl] at g1; cases g1
        | some w => rw [hl] at g1; cases g1; exact ⟨rfl, rfl⟩
      · cases g1
    obtain ⟨rfl, g5⟩ := g4
    obtain ⟨vs, F', h1, h2, h3⟩ := resS_ok r _ t e F1 H1 hr g2 g3
    refine ⟨_, F', ?_, h2, h3⟩
    rw [List.mapM_cons, g5, h1]; rfl
noncomputable def allNT (k : Bool) (l : List FV) : Bool := List.rec (motive := fun _ => Bool) k (fun v _ ih => ifK ih (noTF v)) l
theorem allNT_ok {k : Bool} : ∀ {l : List FV}, allNT k l = true → (FV.vals l).all noTuple = true ∧ k = true
  | [], h => ⟨rfl, h⟩
  | v :: r, h => by
    obtain ⟨h1, h2⟩ := ifK_ok (show ifK (allNT k r) (noTF v) = true from h)
    obtain ⟨h3, h4⟩ := allNT_ok h2
    exact ⟨by rw [FV.vals, List.all_cons, noTF_ok h1, h3]; rfl, h4⟩
noncomputable def finR (k : FV → FH → Bool) (l : List FV) (F : FH) : Bool := List.rec (motive := fun _ => Bool) (k (.tt []) F) (fun v r _ => List.rec (motive := fun _ => Bool) (k v F) (fun _ _ _ => allNT (k (.tt l) F) l) r) l
theorem finR_ok {k : FV → FH → Bool} {l : List FV} (h : finR k l F = true) : ∃ v : FV, (match (some (FV.vals l) : Option (List Value)) with
    | some [v] => some v
    | some vs => bif vs.all noTuple then some (Value.tuple vs.toArray) else none
    | none => none) = some v.val ∧ k v F = true := by
  cases l with
  | nil => exact ⟨.tt [], rfl, h⟩
  | cons v r =>
    cases r with
    | nil => exact ⟨v, rfl, h⟩
    | cons w r =>
      obtain ⟨h1, h2⟩ := allNT_ok (show allNT (k (.tt (v :: w :: r)) F) (v :: w :: r) = true from h)
      refine ⟨.tt (v :: w :: r), ?_, h2⟩
      simp only [FV.vals] at h1 ⊢
      rw [h1]; rfl
end

/-! ### Functions -/
structure FnK where
  run : CallT → Nat → List FV → (FV → FH → Bool) → FH → Bool
def failF : FnK := ⟨fun _ _ _ _ _ => false⟩
noncomputable def codeF {E : Type} (I : EnvI E) (P : Program) (ff : FuncId → Bool) (T : RT) (fn : Func) (c : Code) : FnK :=
  CodeK.rec (motive := fun _ => FnK) (fun f => ResK.rec (motive := fun _ => FnK) (fun rs => PutsK.rec (motive := fun _ => FnK) (fun ps =>
    ⟨fun call N args k F => ps (fun t => f call N (fun t F => rs (finR k) t F) (fun _ _ _ => false) (fun t F => rs (finR k) t F) t F) args I.ini⟩) (putsS I fn.ntmps 24 0)) (resS I fn.ntmps P fn.results.toList)) (codeS I fn.ntmps P ff T c)
/-- A function told of by hand, as the machine has it. -/
def FPrimOk (pf : FnK) (g : PrimF) : Prop := ∀ (call : CallT) (ca : CallA) (N : Nat) (args : List FV) (k : FV → FH → Bool) (F : FH) (H : AH), CallR call ca → HR F H → pf.run call N args k F = true → ∃ v F' H', g ca (FV.vals args) H = some (FV.val v, H') ∧ HR F' H' ∧ k v F' = true
/-- The functions that may be called, with how their regions are done. -/
abbrev FT := List (Nat × RT)
noncomputable def ftOf (t : FT) (f : Nat) : Option RT := List.rec (motive := fun _ => Option RT) none (fun p _ ih => Bool.rec (motive := fun _ => Option RT) ih (some p.2) (Nat.beq p.1 f)) t
noncomputable def chkFn (P : Program) (ff : FuncId → Bool) (f : Nat) (T : RT) : Bool := match P.funcs[f]? with
  | some fn => match fn.body with
    | some c => chkCode P ff T c
    | none => true
  | none => true
noncomputable def fnS (P : Program) (prims : Prims) (fp : FuncId → FnK) (tab : FT) (f : FuncId) : FnK :=
  match prims.run f with
  | some _ => fp f
  | none => match ftOf tab f with
    | some T => match P.funcs[f]? with
      | some fn => match fn.body with
        | some c => match Nat.ble fn.ntmps 64 with
          | true => codeF env2 P prims.flat T fn c
          | false => match Nat.ble fn.ntmps 512 with
            | true => codeF env3 P prims.flat T fn c
            | false => match Nat.ble fn.ntmps 4096 with
              | true => codeF env4 P prims.flat T fn c
              | false => failF
        | none => failF
      | none => failF
    | none => failF
noncomputable def vmFn (P : Program) (prims : Prims) (fp : FuncId → FnK) (tab : FT) (N : Nat) : CallT :=
  Nat.rec (motive := fun _ => CallT) (fun _ _ _ _ => false) (fun N ih f args k F => FnK.rec (motive := fun _ => Bool) (fun run => run ih N args k F) (fnS P prims fp tab f)) N
theorem codeF_ok {E : Type} {I : EnvI E} {P : Program} {ff : FuncId → Bool} {T : RT} {fn : Func} {c : Code} {call : CallT} {ca : CallA} {N : Nat} {args : List FV} {k : FV → FH → Bool} {F : FH} {H : AH} (hT : chkCode P ff T c = true) (hn : fn.ntmps ≤ I.size) (hc : CallR call ca) (hH : HR F H) (h : (codeF I P ff T fn c).run call N args k F = true) :
    ∃ v F' H', (match evCode P (evRegion P ff ca) N c (FV.vals args ++ List.replicate (fn.ntmps - (FV.vals args).length) undef) H with
      | some (.nx, e, H') | some (.rt, e, H') => (resultsA P e H' fn.results.toList).map (·, H')
      | _ => none) = some (FV.val v, H') ∧ HR F' H' ∧ k v F' = true := by
  have h : (putsS I fn.ntmps 24 0).run (fun t => (codeS I fn.ntmps P ff T c).run call N (fun t F => (resS I fn.ntmps P fn.results.toList).run (finR k) t F) (fun _ _ _ => false) (fun t F => (resS I fn.ntmps P fn.results.toList).run (finR k) t F) t F) args I.ini = true := h
  have hini : REv I fn.ntmps I.ini ([] ++ List.replicate (fn.ntmps - 0) undef) := ⟨by simp, hn, fun i hi => by
    rw [I.ini_ok i (Nat.lt_of_lt_of_le hi hn)]
    simp only [List.nil_append, Nat.sub_zero]
    rw [List.getElem?_replicate, if_pos hi]; rfl⟩
  obtain ⟨t, h1, h2, h3⟩ := putsS_ok 24 0 _ args I.ini [] rfl (Nat.zero_le _) hini h
  simp only [List.nil_append] at h1 h2
  obtain ⟨st, t', e', F', H', h4, h5, h6, h7⟩ := codeS_ok hc c hT _ _ _ t _ F H h2 hH h3
  have fin : (resS I fn.ntmps P fn.results.toList).run (finR k) t' F' = true → ∃ v F2, resultsA P e' H' fn.results.toList = some (FV.val v) ∧ HR F2 H' ∧ k v F2 = true := fun h8 => by
    obtain ⟨vs, F2, h9, h10, h11⟩ := resS_ok _ _ _ _ _ _ h5 h6 h8
    obtain ⟨v, h12, h13⟩ := finR_ok h11
    refine ⟨v, F2, ?_, h10, h13⟩
    unfold resultsA
    rw [h9]
    exact h12
  cases st with
  | nx =>
    obtain ⟨v, F2, h8, h9, h10⟩ := fin h7
    exact ⟨v, F2, H', by rw [h4]; simp only [h8, Option.map_some], h9, h10⟩
  | rt =>
    obtain ⟨v, F2, h8, h9, h10⟩ := fin h7
    exact ⟨v, F2, H', by rw [h4]; simp only [h8, Option.map_some], h9, h10⟩
  | ex i => cases h7
/-- The table says how it is. -/
def TabOk (P : Program) (ff : FuncId → Bool) (tab : FT) : Prop := ∀ f T, ftOf tab f = some T → chkFn P ff f T = true
theorem tabOk_all {P : Program} {ff : FuncId → Bool} : ∀ {tab : FT}, (∀ p, p ∈ tab → chkFn P ff p.1 p.2 = true) → TabOk P ff tab
  | [], _, f, T, h => by cases h
  | p :: r, ha, f, T, h => by
    have h : (Bool.rec (motive := fun _ => Option RT) (ftOf r f) (some p.2) (Nat.beq p.1 f) : Option RT) = some T := h
    cases hb : Nat.beq p.1 f with
    | true =>
      rw [hb] at h
      have h : some p.2 = some T := h
      cases h
      have := ha p List.mem_cons_self
      rwa [Nat.eq_of_beq_eq_true hb] at this
    | false =>
      rw [hb] at h
      exact tabOk_all (fun q hq => ha q (List.mem_cons_of_mem _ hq)) f T h
theorem vmFn_ok {P : Program} {prims : Prims} {fp : FuncId → FnK} {tab : FT} (hp : ∀ f g, prims.run f = some g → FPrimOk (fp f) g) (ht : TabOk P prims.flat tab) : ∀ N, CallR (vmFn P prims fp tab N) (evFn P prims N) := by
  intro N
  induction N with
  | zero => intro f args k F H hH h; cases h
  | succ N ih =>
    intro f args k F H hH h
    have h : (fnS P prims fp tab f).run (vmFn P prims fp tab N) N args k F = true := h
    unfold fnS at h
    unfold evFn
    split at h
    · rename_i g hg
      obtain ⟨v, F', H', h1, h2, h3⟩ := hp f g hg _ _ N args k F H ih hH h
      exact ⟨v, F', H', by simp only [hg]; exact h1, h2, h3⟩
    · rename_i hg
      split at h
      case h_2 => cases h
      rename_i T hT
      split at h
      case h_2 => cases h
      rename_i fn hf
      split at h
      case h_2 => cases h
      rename_i c hb
      have hT2 : chkCode P prims.flat T c = true := by
        have := ht f T hT
        unfold chkFn at this
        rw [hf] at this
        simp only [hb] at this
        exact this
      simp only [hg, hf, hb]
      split at h
      · rename_i hle
        exact codeF_ok hT2 (show fn.ntmps ≤ env2.size from Nat.le_of_ble_eq_true hle) ih hH h
      · split at h
        · rename_i hle
          exact codeF_ok hT2 (show fn.ntmps ≤ env3.size from Nat.le_of_ble_eq_true hle) ih hH h
        · split at h
          · rename_i hle
            exact codeF_ok hT2 (show fn.ntmps ≤ env4.size from Nat.le_of_ble_eq_true hle) ih hH h
          · cases h
def emptyF : FH := ⟨Q.emp, 0, 0⟩
theorem empty_R : HR emptyF AH.empty := ⟨WfH.empty, rfl, rfl, fun c fb h => by cases h⟩
noncomputable def isT (v : FV) (_ : FH) : Bool := onB (fun b => b) false v
/-- A closed run, reckoned by the machine. -/
theorem run_of_vm {P : Program} {prims : Prims} {fp : FuncId → FnK} {tab : FT} {N : Nat} {f : FuncId} (hp : ∀ f g, prims.run f = some g → FPrimOk (fp f) g) (ht : TabOk P prims.flat tab) (h : vmFn P prims fp tab N f [] isT emptyF = true) : (evFn P prims N f [] AH.empty).map Prod.fst = some (.bool true) := by
  obtain ⟨v, F', H', h1, _, h2⟩ := vmFn_ok hp ht N f [] isT emptyF AH.empty empty_R h
  have h1 : evFn P prims N f [] AH.empty = some (v.val, H') := h1
  rw [h1]
  rcases onB_ok (show onB (fun b => b) false v = true from h2) with ⟨b, rfl, h3⟩ | h3
  · have h3 : b = true := h3
    subst h3; rfl
  · cases h3
end Go.Proofs.YtenolmhnmcjndaaGreatDoor.Ev
namespace Go.Proofs.YtenolmhnmcjndaaGreatDoor.Ev
set_option linter.unusedVariables false
set_option linter.unusedSimpArgs false
open Go
/-- What a function gives does not hang on the heap. -/
def FlatP (g : List Value → AH → Option (Value × AH)) : Prop := ∀ args v H0, g args AH.empty = some (v, H0) → ∀ H, g args H = some (v, H)
noncomputable def flatPF (g : List Value → AH → Option (Value × AH)) : FnK :=
  ⟨fun _ _ args k F => Option.rec (motive := fun _ => Bool) false (fun p => convK (fun v => k v F) p.1) (g (FV.vals args) AH.empty)⟩
theorem flatPF_ok {g : List Value → AH → Option (Value × AH)} (hg : FlatP g) : FPrimOk (flatPF g) (fun _ => g) := fun call ca N args k F H _ hH h => by
  have h : Option.rec (motive := fun _ => Bool) false (fun p => convK (fun v => k v F) p.1) (g (FV.vals args) AH.empty) = true := h
  cases hr : g (FV.vals args) AH.empty with
  | none => rw [hr] at h; cases h
  | some p =>
    obtain ⟨v, H0⟩ := p
    rw [hr] at h
    obtain ⟨f, hf, h2⟩ := convK_ok (show convK (fun v => k v F) v = true from h)
    subst hf
    exact ⟨f, F, H, hg _ _ _ hr H, hH, h2⟩
end Go.Proofs.YtenolmhnmcjndaaGreatDoor.Ev
namespace Go.Proofs.YtenolmhnmcjndaaGreatDoor.Ev
set_option linter.unusedVariables false
set_option linter.unusedSimpArgs false
open Go Go.RowKit
section
variable {P : Program}
def SlotsOk (l : List (Nat × Value)) (n : Nat) (t : Array Value) : Prop := t.size = n ∧ ∀ p, p ∈ l → t[p.1]? = some p.2
def Piece (P : Program) (c : Code) (n : Nat) (l : List (Nat × Value)) (st : St) (l' : List (Nat × Value)) : Prop :=
  ∀ (w : World) (a : Act) (Q : Exit → Act → World → Prop), Tabs w → SlotsOk l n a.tmps → (∀ w' a', Below w.heap.size w w' → Tabs w' → SlotsOk l' n a'.tmps → a'.defers = a.defers → Q st.exit a' w') → c.wp P Q a w
theorem below_trans {w w1 w2 : World} (h : Below w.heap.size w w1) (k : Below w1.heap.size w1 w2) : Below w.heap.size w w2 where
  os := k.os.trans h.os
  tape := k.tape.trans h.tape
  output := k.output.trans h.output
  size := Nat.le_trans h.size k.size
  block := fun i hi => (k.block i (Nat.lt_of_lt_of_le hi h.size)).trans (h.block i hi)
theorem tabs_below {w w' : World} (hT : Tabs w) (h : Below w.heap.size w w') : Tabs w' := Tabs_local (fun g hg => h.block g (tabs_lt hT g hg)) hT
variable {n : Nat} {l l1 l2 : List (Nat × Value)} {st : St} {a b : Code}
theorem piece_seq (h1 : Piece P a n l .nx l1) (h2 : Piece P b n l1 st l2) : Piece P (.seq a b) n l st l2 := fun w ac Q hT hl hk => by
  refine wp_seq (h1 w ac _ hT hl fun w1 a1 hB hT1 hl1 hd => ?_)
  exact h2 w1 a1 Q hT1 hl1 fun w2 a2 hB2 hT2 hl2 hd2 => hk w2 a2 (below_trans hB hB2) hT2 hl2 (hd2.trans hd)
theorem piece_block {i : Nat} (h : Piece P a n l (.ex i) l1) : Piece P (.block i a) n l .nx l1 := fun w ac Q hT hl hk => by
  refine wp_block (h w ac _ hT hl fun w1 a1 hB hT1 hl1 hd => ?_)
  show (if i = i then Q .normal a1 w1 else Q (.exit i) a1 w1)
  rw [if_pos rfl]
  exact hk w1 a1 hB hT1 hl1 hd
theorem piece_scope (h : Piece P a n l st l1) : Piece P (.scope a) n l st l1 := fun w ac Q hT hl hk => by
  refine wp_scope_straight (h w ac _ hT hl fun w1 a1 hB hT1 hl1 hd => ?_)
  have := hk w1 a1 hB hT1 hl1 hd
  cases st with
  | nx => exact this
  | ex i => exact this
  | rt => exact this
theorem piece_rounds (L : Nat → List (Nat × Value)) (m : Nat) {i : Nat} (h : ∀ k, k < m → Piece P a n (L k) .nx (L (k + 1))) (he : Piece P a n (L m) (.ex i) l1) : Piece P (.loop a) n (L 0) (.ex i) l1 := fun w ac Q hT hl hk => by
  refine wp_loop_rounds (m + 1) ?_
  have key : ∀ (j k : Nat), k + j = m → ∀ (w1 : World) (a1 : Act), Below w.heap.size w w1 → Tabs w1 → SlotsOk (L k) n a1.tmps → a1.defers = ac.defers → Code.rounds P a Q (j + 1) a1 w1 := by
    intro j
    induction j with
    | zero =>
      intro k hkm w1 a1 hB hT1 hl1 hd
      have e : k = m := by omega
      subst e
      rw [rounds_succ]
      exact he w1 a1 _ hT1 hl1 fun w2 a2 hB2 hT2 hl2 hd2 => hk w2 a2 (below_trans hB hB2) hT2 hl2 (hd2.trans hd)
    | succ j ih =>
      intro k hkm w1 a1 hB hT1 hl1 hd
      rw [rounds_succ]
      exact h k (by omega) w1 a1 _ hT1 hl1 fun w2 a2 hB2 hT2 hl2 hd2 => ih (k + 1) (by omega) w2 a2 (below_trans hB hB2) hT2 hl2 (hd2.trans hd)
  exact key m 0 (by omega) w ac ⟨rfl, rfl, rfl, Nat.le_refl _, fun _ _ => rfl⟩ hT hl rfl

/-! ### Pieces reckoned by the machine -/
def fvals (l : List (Nat × FV)) : List (Nat × Value) := l.map fun p => (p.1, p.2.val)
def setsE (e : List Value) (l : List (Nat × Value)) : List Value := l.foldl (fun e p => e.set p.1 p.2) e
theorem setsE_len : ∀ (l : List (Nat × Value)) (e : List Value), (setsE e l).length = e.length
  | [], e => rfl
  | p :: r, e => by rw [show setsE e (p :: r) = setsE (e.set p.1 p.2) r from rfl, setsE_len r, List.length_set]
theorem setsE_get : ∀ (l : List (Nat × Value)) (e : List Value) (i : Nat) (x : Value), (setsE e l)[i]? = some x → e[i]? = some x ∨ (i, x) ∈ l
  | [], e, i, x, h => .inl h
  | p :: r, e, i, x, h => by
    rcases setsE_get r (e.set p.1 p.2) i x h with h | h
    · rw [List.getElem?_set] at h
      split at h
      · rename_i hpi
        split at h
        · cases h; subst hpi; exact .inr List.mem_cons_self
        · cases h
      · exact .inl h
    · exact .inr (List.mem_cons_of_mem _ h)
variable {E : Type} {I : EnvI E}
noncomputable def putJ (I : EnvI E) (n : Nat) (k : E → Bool) : List (Nat × FV) → E → Bool
  | [], t => k t
  | p :: r, t => (putS I n (some p.1)).run (putJ I n k r) p.2 t
theorem putJ_ok {k : E → Bool} : ∀ (l : List (Nat × FV)) (t : E) (e : List Value), REv I n t e → putJ I n k l t = true → ∃ t', k t' = true ∧ REv I n t' (setsE e (fvals l))
  | [], t, e, hr, h => ⟨t, h, hr⟩
  | p :: r, t, e, hr, h => by
    obtain ⟨t1, h1, h2⟩ := putS_ok hr (show (putS I n (some p.1)).run (putJ I n k r) p.2 t = true from h)
    exact putJ_ok r t1 _ h2 h1
noncomputable def eqF (v w : FV) : Bool := match v with
  | .nn m => onN (fun x => Nat.beq x m) false w
  | .bb true => onB (fun x => x) false w
  | .bb false => onB (fun x => Bool.not x) false w
  | .ss n x => onS (fun m y => ifK (Nat.beq y x) (Nat.beq m n)) false w
  | _ => false
theorem eqF_ok {v w : FV} (h : eqF v w = true) : w = v ∧ flatB v.val = true := by
  unfold eqF at h
  split at h
  · rcases onN_ok h with ⟨m, rfl, h1⟩ | h1
    · rw [Nat.eq_of_beq_eq_true h1]; exact ⟨rfl, rfl⟩
    · cases h1
  · rcases onB_ok h with ⟨b, rfl, h1⟩ | h1
    · have h1 : b = true := h1
      subst h1; exact ⟨rfl, rfl⟩
    · cases h1
  · rcases onB_ok h with ⟨b, rfl, h1⟩ | h1
    · cases b
      · exact ⟨rfl, rfl⟩
      · cases h1
    · cases h1
  · rcases onS_ok h with ⟨m, y, rfl, h1⟩ | h1
    · obtain ⟨h2, h3⟩ := ifK_ok h1
      rw [Nat.eq_of_beq_eq_true h2, Nat.eq_of_beq_eq_true h3]; exact ⟨rfl, rfl⟩
    · cases h1
  · cases h
noncomputable def chkJ (I : EnvI E) (n : Nat) : List (Nat × FV) → E → Bool
  | [], t => true
  | p :: r, t => Bool.and (Nat.blt p.1 n) (Bool.and (eqF p.2 ((opdS I n (.tmp p.1)).run t)) (chkJ I n r t))
theorem chkJ_ok {t : E} {e : List Value} (hr : REv I n t e) (hn : e.length = n) : ∀ (l : List (Nat × FV)), chkJ I n l t = true → ∀ p, p ∈ fvals l → e[p.1]? = some p.2 ∧ flatB p.2 = true
  | [], _, p, hp => by cases hp
  | q :: r, h, p, hp => by
    obtain ⟨h1, h2⟩ := Bool.and_eq_true_iff.1 (show (Nat.blt q.1 n && (eqF q.2 ((opdS I n (.tmp q.1)).run t) && chkJ I n r t)) = true from h)
    obtain ⟨h2, h3⟩ := Bool.and_eq_true_iff.1 h2
    rcases List.mem_cons.1 (show p ∈ (q.1, q.2.val) :: fvals r from hp) with rfl | hp
    · obtain ⟨h4, h5⟩ := eqF_ok h2
      have h6 : rho e (.tmp q.1) = q.2.val := by rw [← opdS_ok hr, h4]
      have h7 : q.1 < e.length := by rw [hn]; simpa using h1
      refine ⟨?_, h5⟩
      have h8 : e.getD q.1 undef = q.2.val := h6
      rw [List.getElem?_eq_getElem h7, ← h8, List.getD_eq_getElem?_getD, List.getElem?_eq_getElem h7]; rfl
    · exact chkJ_ok hr hn r h3 p hp
noncomputable def vmPiece (I : EnvI E) (n : Nat) (P : Program) (ff : FuncId → Bool) (T : RT) (call : CallT) (N : Nat) (j : E) (c : Code) (l : List (Nat × FV)) (st : St) (l' : List (Nat × FV)) : Bool :=
  ifK (putJ I n (fun t => (codeS I n P ff T c).run call N (fun t _ => match st with | .nx => chkJ I n l' t | _ => false) (fun id t _ => match st with | .ex i => Bool.and (Nat.beq id i) (chkJ I n l' t) | _ => false) (fun t _ => match st with | .rt => chkJ I n l' t | _ => false) t emptyF) l j) (noRF c)
theorem piece_of_vm {ff : FuncId → Bool} {T : RT} {call : CallT} {ca : CallA} {N : Nat} {j : E} {c : Code} {l l' : List (Nat × FV)} (hpr : ProgOk P) (hc : CallR call ca) (hreg : RegOk P (evRegion P ff ca)) (hn : n ≤ I.size) (hj : ∀ m, m < I.size → I.at_ j m = .oo junk)
    (hT : chkCode P ff T c = true) (hfl : (fvals l).all (fun p => flatB p.2) = true) (h : vmPiece I n P ff T call N j c l st l' = true) : Piece P c n (fvals l) st (fvals l') := fun w a Q hTb hl hk => by
  have h0 : REv I n j (List.replicate n junk) := ⟨by simp, hn, fun i hi => by
    rw [hj i (Nat.lt_of_lt_of_le hi hn), List.getElem?_replicate, if_pos hi]; rfl⟩
  obtain ⟨hrf, h⟩ := ifK_ok h
  obtain ⟨t, h1, h2⟩ := putJ_ok l j _ h0 h
  obtain ⟨st1, t', e', F', H', h3, h4, h5, h6⟩ := codeS_ok hc c hT _ _ _ t _ _ _ h2 empty_R h1
  have hst : st1 = st ∧ chkJ I n l' t' = true := by
    cases st <;> cases st1 <;> first | exact ⟨rfl, h6⟩ | (cases h6; done) | skip
    obtain ⟨h7, h8⟩ := Bool.and_eq_true_iff.1 (show (Nat.beq _ _ && _) = true from h6)
    exact ⟨by rw [Nat.eq_of_beq_eq_true h7], h8⟩
  obtain ⟨rfl, h7⟩ := hst
  have henv : EnvR P (fun _ => none) AH.empty w (setsE (List.replicate n junk) (fvals l)) a.tmps := by
    refine ⟨by rw [hl.1, setsE_len, List.length_replicate], fun i x y hx hy => ?_⟩
    rcases setsE_get _ _ _ _ hx with h | h
    · rw [List.getElem?_replicate] at h
      split at h
      · cases h; exact val_junk
      · cases h
    · have := hl.2 _ h
      simp only at this
      rw [hy] at this
      cases this
      exact val_refl (List.all_eq_true.1 hfl _ h)
  refine evCode_sound hpr hreg N c _ _ st1 e' H' (fun _ => none) w a Q hrf h3 (sim_empty hTb) henv fun φ1 w1 a1 s1 hs1 he1 hd1 => ?_
  have hB := step_ro (fun c r δ b h => by cases h) s1
  refine hk w1 a1 hB (tabs_below hTb hB) ⟨by rw [he1.1, h4.1], fun p hp => ?_⟩ hd1
  obtain ⟨h8, h9⟩ := chkJ_ok h4 h4.1 l' h7 p hp
  have h10 : p.1 < a1.tmps.size := by rw [he1.1]; exact (List.getElem?_eq_some_iff.1 h8).1
  have h11 := he1.2 _ _ _ h8 (Array.getElem?_eq_getElem h10)
  rw [Array.getElem?_eq_getElem h10, ← val_eq h9 h11]
/-- A law of no parameters, all of it in pieces. -/
theorem calls_of_piece {f : FuncId} {fn : Func} {c : Code} {r : Nat} {v : Value} (hf : P.funcs[f]? = some fn) (hb : fn.body = some c) (hr : fn.results.toList = [.tmp r]) (hv : flatB v = true) (h : Piece P c fn.ntmps [] .rt [(r, v)]) (w : World) (hT : Tabs w) :
    Calls P f #[] w fun e w' => e = .returned v ∧ Below w.heap.size w w' := by
  refine calls_of_wp hf hb (h w _ _ hT ⟨by simp, fun p hp => by cases hp⟩ fun w1 a1 hB hT1 hl hd => ?_)
  have h1 := hl.2 _ List.mem_cons_self
  have he : EnvR P (fun _ => none) AH.empty w1 (setsE (List.replicate fn.ntmps junk) [(r, v)]) a1.tmps := by
    refine ⟨by rw [hl.1, setsE_len, List.length_replicate], fun i x y hx hy => ?_⟩
    rcases setsE_get _ _ _ _ hx with h | h
    · rw [List.getElem?_replicate] at h
      split at h
      · cases h; exact val_junk
      · cases h
    · rcases List.mem_cons.1 h with h | h
      · cases h
        simp only at h1
        rw [hy] at h1
        cases h1
        exact val_refl hv
      · cases h
  have hrn : r < fn.ntmps := by
    have := (Array.getElem?_eq_some_iff.1 h1).1
    rw [hl.1] at this; exact this
  obtain ⟨v', h2, h3⟩ := results_rel (fn := fn) (v := v) (sim_empty hT1) he (by
    have e1 : resA P (setsE (List.replicate fn.ntmps junk) [(r, v)]) AH.empty (.tmp r) = some v := by
      show some (((List.replicate fn.ntmps junk).set r v).getD r undef) = some v
      rw [List.getD_eq_getElem?_getD, List.getElem?_set, if_pos rfl, if_pos (by simpa using hrn)]; rfl
    unfold resultsA
    rw [hr, List.mapM_cons, e1]; rfl)
  have : a1.defers = [] ∧ ∃ v', (results fn a1.tmps).run P w1 = .ok v' w1 ∧ (Ending.returned v' = .returned v ∧ Below w.heap.size w w1) := ⟨hd, v', h2, by rw [← val_eq hv h3], hB⟩
  exact this
end
end Go.Proofs.YtenolmhnmcjndaaGreatDoor.Ev
