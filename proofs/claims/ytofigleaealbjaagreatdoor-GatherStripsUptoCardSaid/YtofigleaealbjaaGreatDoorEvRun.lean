/-
  Regions in the text's order, code, functions: what the evaluator says is what the model does.
-/
import Derived.Test.YtofigleaealbjaaGreatDoorEvStep
import Derived.Tactics
import Derived.LoopN
namespace Go.Proofs.YtofigleaealbjaaGreatDoor.Ev
open Go
section
variable {P : Program} {φ : Phi} {H H' : AH} {w w' : World} {ops : Array Oper}

theorem guard_wanted {o : Oper} {e : List Value} {t : Array Value} {b : Bool} (he : EnvR P φ H w e t) (h : guardA ops o e = some b) : Region.wanted o (yielded ops t) = b := by
  unfold guardA at h
  unfold Region.wanted
  split at h
  · rename_i hg; cases h; rw [hg]
  · rename_i j want hg
    rw [hg]
    simp only
    unfold yielded
    cases hd : (ops[j]?).bind (·.dst) with
    | none => rw [hd] at h; simp at h
    | some d =>
      rw [hd] at h
      simp only [Option.bind_some] at h ⊢
      cases hed : e[d]? with
      | none => rw [hed] at h; simp at h
      | some x =>
        have hlt : d < t.size := by rw [he.1]; exact (List.getElem?_eq_some_iff.1 hed).1
        have hv := he.2 d x _ hed (Array.getElem?_eq_getElem hlt)
        rw [hed] at h
        rw [Array.getElem?_eq_getElem hlt]
        cases x <;> simp only at h <;> try (cases h; done)
        · rename_i b'
          cases h
          rw [val_bool hv]
          simp
        · rename_i vs
          cases hvs : vs.isEmpty with
          | false => rw [hvs] at h; cases h
          | true =>
            rw [hvs] at h
            cases h
            have : vs = #[] := by simpa using hvs
            subst this
            have : t[d] = .tuple #[] := (val_eq (by simp [flatB]) hv).symm
            rw [this]
            rfl

/-- The end of a piece of code. -/
def EndOk (P : Program) (φ : Phi) (H : AH) (w : World) (e' : List Value) (H' : AH) (df : List Deferred) (K : Act → World → Prop) : Prop :=
  ∀ φ' w' a', Step P φ H w φ' H' w' → Sim P φ' H' w' → EnvR P φ' H' w' e' a'.tmps → a'.defers = df → K a' w'

theorem put_defers' (a : Act) (d : Option Tmp) (v : Value) : (a.put d v).defers = a.defers := by cases d <;> rfl

theorem evOps_sound (hp : ProgOk P) {call : CallA} (hcall : CallOk P call) {Q : Exit → Act → World → Prop} : ∀ (l : List Oper) (e : List Value) (H : AH) (e' : List Value) (H' : AH) (φ : Phi) (w : World) (a : Act),
    evOps P call ops l e H = some (e', H') → Sim P φ H w → EnvR P φ H w e a.tmps → EndOk P φ H w e' H' a.defers (Q .normal) → wpList P ops Q l a w
  | [], e, H, e', H', φ, w, a, h, hs, he, hk => by
    simp only [evOps] at h; cases h
    exact hk φ w a (Step.refl hs) hs he rfl
  | o :: r, e, H, e', H', φ, w, a, h, hs, he, hk => by
    unfold evOps at h
    unfold wpList
    split at h
    · rename_i hg
      rw [guard_wanted he hg, if_pos rfl]
      split at h
      case h_2 => cases h
      rename_i v H1 hop
      refine .inl (evOp_sound hp hcall hs (fun x => he.rho x) hop _ Q fun v' w' ⟨φ', st, hs', hv⟩ => ?_)
      refine evOps_sound hp hcall r _ _ e' H' φ' w' _ h hs' ((he.mono st).put o.dst hv) fun φ2 w2 a2 st2 hs2 he2 hd2 => ?_
      exact hk φ2 w2 a2 (st.trans hs st2) hs2 he2 (by rw [hd2, put_defers'])
    · rename_i hg
      rw [guard_wanted he hg, if_neg (by simp)]
      refine evOps_sound hp hcall r _ _ e' H' φ w _ h hs (he.put o.dst val_undef) fun φ2 w2 a2 st2 hs2 he2 hd2 => ?_
      exact hk φ2 w2 a2 st2 hs2 he2 (by rw [hd2, put_defers'])
    · cases h

/-- What a region of the evaluator promises. -/
def RegOk (P : Program) (reg : Array Oper → Bool → List Value → AH → Option (List Value × AH)) : Prop :=
  ∀ ops d e H e' H', reg ops d e H = some (e', H') → ∀ id φ w (a : Act) (Q : Exit → Act → World → Prop), Sim P φ H w → EnvR P φ H w e a.tmps → EndOk P φ H w e' H' a.defers (Q .normal) → (Code.region id ops d).wp P Q a w

def St.exit : St → Exit
  | .nx => .normal
  | .ex id => .exit id
  | .rt => .ret

theorem evCode_sound {reg : Array Oper → Bool → List Value → AH → Option (List Value × AH)} (hreg : RegOk P reg) (n : Nat) : ∀ (c : Code) (e : List Value) (H : AH) (st : St) (e' : List Value) (H' : AH) (φ : Phi) (w : World) (a : Act) (Q : Exit → Act → World → Prop),
    evCode P reg n c e H = some (st, e', H') → Sim P φ H w → EnvR P φ H w e a.tmps → EndOk P φ H w e' H' a.defers (Q st.exit) → c.wp P Q a w := by
  intro c
  induction c with
  | skip =>
    intro e H st e' H' φ w a Q h hs he hk
    simp only [evCode] at h; cases h
    exact wp_skip (hk φ w a (Step.refl hs) hs he rfl)
  | region id ops d =>
    intro e H st e' H' φ w a Q h hs he hk
    simp only [evCode] at h
    split at h
    · rename_i e1 H1 hr; cases h; exact hreg ops d e H _ _ hr id φ w a Q hs he hk
    · cases h
  | seq x y ihx ihy =>
    intro e H st e' H' φ w a Q h hs he hk
    simp only [evCode] at h
    refine wp_seq ?_
    split at h
    · rename_i e1 H1 hx
      refine ihx e H .nx e1 H1 φ w a _ hx hs he fun φ1 w1 a1 st1 hs1 he1 hd1 => ?_
      exact ihy e1 H1 st e' H' φ1 w1 a1 Q h hs1 he1 fun φ2 w2 a2 st2 hs2 he2 hd2 => hk φ2 w2 a2 (st1.trans hs st2) hs2 he2 (hd2.trans hd1)
    · rename_i r hx
      refine ihx e H st e' H' φ w a _ h hs he fun φ1 w1 a1 st1 hs1 he1 hd1 => ?_
      have := hk φ1 w1 a1 st1 hs1 he1 hd1
      cases st with
      | nx => exact absurd h (hx e' H')
      | ex id => exact this
      | rt => exact this
  | cond c x y ihx ihy =>
    intro e H st e' H' φ w a Q h hs he hk
    simp only [evCode] at h
    split at h
    · rename_i hc; exact wp_cond_true (val_bool (hc ▸ he.rho c)) (ihx e H st e' H' φ w a Q h hs he hk)
    · rename_i hc; exact wp_cond_false (val_bool (hc ▸ he.rho c)) (ihy e H st e' H' φ w a Q h hs he hk)
    · cases h
  | block id c ih =>
    intro e H st e' H' φ w a Q h hs he hk
    simp only [evCode] at h
    refine wp_block ?_
    split at h
    · rename_i i e1 H1 hc
      refine ih e H (.ex i) e1 H1 φ w a _ hc hs he fun φ1 w1 a1 st1 hs1 he1 hd1 => ?_
      show (if i = id then Q .normal a1 w1 else Q (.exit i) a1 w1)
      split at h
      · rename_i hi; cases h; rw [if_pos hi]; exact hk φ1 w1 a1 st1 hs1 he1 hd1
      · rename_i hi; cases h; rw [if_neg hi]; exact hk φ1 w1 a1 st1 hs1 he1 hd1
    · rename_i r hc
      refine ih e H st e' H' φ w a _ h hs he fun φ1 w1 a1 st1 hs1 he1 hd1 => ?_
      have := hk φ1 w1 a1 st1 hs1 he1 hd1
      cases st with
      | nx => exact this
      | ex i => exact absurd h (hc i e' H')
      | rt => exact this
  | loop c ih =>
    intro e H st e' H' φ w a Q h hs he hk
    simp only [evCode] at h
    have key : ∀ (m : Nat) (e : List Value) (H : AH) (φ : Phi) (w : World) (a : Act), loopA (evCode P reg n c) m e H = some (st, e', H') → Sim P φ H w → EnvR P φ H w e a.tmps → EndOk P φ H w e' H' a.defers (Q st.exit) → Code.rounds P c Q m a w := by
      intro m
      induction m with
      | zero => intro e H φ w a h; simp [loopA] at h
      | succ m ihm =>
        intro e H φ w a h hs he hk
        simp only [loopA] at h
        rw [rounds_succ]
        split at h
        · rename_i e1 H1 hc
          refine ih e H .nx e1 H1 φ w a _ hc hs he fun φ1 w1 a1 st1 hs1 he1 hd1 => ?_
          exact ihm e1 H1 φ1 w1 a1 h hs1 he1 fun φ2 w2 a2 st2 hs2 he2 hd2 => hk φ2 w2 a2 (st1.trans hs st2) hs2 he2 (hd2.trans hd1)
        · rename_i r hc
          refine ih e H st e' H' φ w a _ h hs he fun φ1 w1 a1 st1 hs1 he1 hd1 => ?_
          have := hk φ1 w1 a1 st1 hs1 he1 hd1
          cases st with
          | nx => exact absurd h (hc e' H')
          | ex id => exact this
          | rt => exact this
    exact wp_loop_rounds n (key n e H φ w a h hs he hk)
  | exit id =>
    intro e H st e' H' φ w a Q h hs he hk
    simp only [evCode] at h; cases h
    exact wp_exit (hk φ w a (Step.refl hs) hs he rfl)
  | ret =>
    intro e H st e' H' φ w a Q h hs he hk
    simp only [evCode] at h; cases h
    exact wp_ret (hk φ w a (Step.refl hs) hs he rfl)
  | _ => intro e H st e' H' φ w a Q h; simp [evCode] at h

/-! ### Results and functions -/
theorem load_rel (hs : Sim P φ H w) {t : TypeId} {p q : Addr} {v : Value} (hp : AddrR φ H p q) (h : loadA P H t p = some v) : ∃ v', (loadVar t q).run P w = .ok v' w ∧ ValR P φ H w v v' := by
  unfold loadA at h
  split at h
  · rename_i C e fr d hsp hc hu
    obtain ⟨b, δ, C', fr', l⟩ := lies hs hp hc
    obtain ⟨i, hi⟩ := info_of_underlying hu
    have scalar : (isAgg t).run P w = .ok false w → C[p.off]? = some v → ∃ v', (loadVar t q).run P w = .ok v' w ∧ ValR P φ H w v v' := fun h2 hx => by
      obtain ⟨y, h3, h4⟩ := l.get hx
      refine ⟨y, ?_, part_of_cell h4⟩
      have := l.cell? 0
      rw [Nat.add_zero, ← addr_eta l.qspot] at this
      have hy : w.cell? q = some y := by rw [this]; exact h3
      simp only [loadVar, Sem.run_bind, h2, Result.andThen_ok, Bool.false_eq_true, if_false, run_load, hy]
    have aggregate : (isAgg t).run P w = .ok true w → (if p.off + szT P t ≤ C.size then some (Value.agg (C.extract p.off (p.off + szT P t))) else none) = some v → ∃ v', (loadVar t q).run P w = .ok v' w ∧ ValR P φ H w v v' := fun h2 hx => by
      split at hx
      · rename_i hle
        cases hx
        obtain ⟨D, h3, h4⟩ := l.load _ hle
        refine ⟨.agg D, ?_, .part (.agg h4)⟩
        simp only [loadVar, Sem.run_bind, h2, Result.andThen_ok, if_true, run_size hi, h3, Sem.run_pure]
      · cases hx
    cases d <;> first | exact aggregate (by simp [isAgg, run_underlying hu]) h | exact scalar (by simp [isAgg, run_underlying hu]) h
  · cases h

theorem res_rel (hs : Sim P φ H w) {e : List Value} {t : Array Value} (he : EnvR P φ H w e t) : ∀ (l : List ResultVar) (vs : List Value), l.mapM (resA P e H) = some vs →
    ∃ vs' : List Value, (l.mapM (fun r => match r with | .tmp d => pure (t.getD d undef) | .cell d ty => do loadVar ty (← asAddr (t.getD d undef)) : ResultVar → Sem Value)).run P w = .ok vs' w ∧ vs'.length = vs.length ∧ ∀ (i : Nat) (x y : Value), vs[i]? = some x → vs'[i]? = some y → ValR P φ H w x y
  | [], vs, h => by simp at h; subst h; exact ⟨[], by simp, rfl, fun i x y hx _ => by simp at hx⟩
  | r :: l, vs, h => by
    simp only [List.mapM_cons, Option.bind_eq_bind, Option.bind_eq_some_iff] at h
    obtain ⟨v, hv, vs2, h2, h3⟩ := h
    simp at h3; subst h3
    obtain ⟨vs', h4, h5, h6⟩ := res_rel hs he l vs2 h2
    have key : ∃ v', ((match r with | .tmp d => pure (t.getD d undef) | .cell d ty => do loadVar ty (← asAddr (t.getD d undef)) : Sem Value)).run P w = .ok v' w ∧ ValR P φ H w v v' := by
      unfold resA at hv
      split at hv
      · rename_i d; cases hv; exact ⟨_, rfl, he.get d⟩
      · rename_i d ty
        split at hv
        · rename_i p hpd
          obtain ⟨q, h7, h8⟩ := val_ptr (hpd ▸ he.get d)
          obtain ⟨v', h9, h10⟩ := load_rel hs h8 hv
          exact ⟨v', by simp only [Sem.run_bind, h7, asAddr, Sem.run_pure, Result.andThen_ok, h9], h10⟩
        · cases hv
    obtain ⟨v', h7, h8⟩ := key
    refine ⟨v' :: vs', ?_, by simp [h5], fun i x y hx hy => ?_⟩
    · simp only [List.mapM_cons, Sem.run_bind, h7, Result.andThen_ok, h4, Sem.run_pure]
    · cases i with
      | zero => simp at hx hy; subst hx; subst hy; exact h8
      | succ i => exact h6 i x y (by simpa using hx) (by simpa using hy)

theorem results_rel (hs : Sim P φ H w) {e : List Value} {t : Array Value} (he : EnvR P φ H w e t) {fn : Func} {v : Value} (h : resultsA P e H fn.results.toList = some v) : ∃ v', (results fn t).run P w = .ok v' w ∧ ValR P φ H w v v' := by
  have hres : results fn t = (do
    let vs ← fn.results.mapM (fun r => match r with | .tmp d => pure (t.getD d undef) | .cell d ty => do loadVar ty (← asAddr (t.getD d undef)) : ResultVar → Sem Value)
    pure (if h : vs.size = 1 then vs[0] else .tuple vs)) := rfl
  have hrun : ∀ vs' : List Value, (fn.results.toList.mapM (fun r => match r with | .tmp d => pure (t.getD d undef) | .cell d ty => do loadVar ty (← asAddr (t.getD d undef)) : ResultVar → Sem Value)).run P w = .ok vs' w →
      (results fn t).run P w = .ok (if h : vs'.toArray.size = 1 then vs'.toArray[0] else .tuple vs'.toArray) w := fun vs' hv => by
    rw [hres, Array.mapM_eq_mapM_toList, Sem.run_bind, Sem.run_map, hv]
    rfl
  unfold resultsA at h
  split at h
  · rename_i x hx
    cases h
    obtain ⟨vs', h4, h5, h6⟩ := res_rel hs he _ _ hx
    refine ⟨_, hrun _ h4, ?_⟩
    match vs', h5 with
    | [y], _ => simpa using h6 0 v y rfl rfl
  · rename_i vs hn hx
    cases hall : vs.all noTuple with
    | false => rw [hall] at h; cases h
    | true =>
    rw [hall] at h
    cases h
    obtain ⟨vs', h4, h5, h6⟩ := res_rel hs he _ _ hx
    have h7 : ¬ vs'.toArray.size = 1 := fun hc => by
      have : vs.length = 1 := by rw [← h5]; simpa using hc
      match vs, this with
      | [y], _ => exact hn y rfl
    refine ⟨_, hrun _ h4, ?_⟩
    rw [dif_neg h7]
    refine .tuple ⟨by simp [h5], fun i x y hx hy => ?_⟩
    have hx' : vs[i]? = some x := by simpa using hx
    have := h6 i x y hx' (by simpa using hy)
    cases this with
    | part h => exact h
    | tuple h => have := List.all_eq_true.1 hall _ (List.mem_of_getElem? hx'); cases this
  · cases h

end
end Go.Proofs.YtofigleaealbjaaGreatDoor.Ev
