/-
  All operations, calls among them; code; functions: what the evaluator says is what the model does.
-/
import Derived.Test.YtofigleaealbjaaGreatDoorEvApp
namespace Go.Proofs.YtofigleaealbjaaGreatDoor.Ev
open Go
section
variable {P : Program} {φ : Phi} {H H' : AH} {w w' : World} {o : Oper} {ρ ρ' : Operand → Value} {v : Value}

/-- Facts of the program's tables. -/
structure ProgOk (P : Program) : Prop where
  name : ∀ (f : Nat) (fn : Func), P.funcs[f]? = some fn → fn.body.isSome = true → (fn.name == "runtime.NumGoroutine") = false

/-- What a call of the evaluator promises. -/
def CallOk (P : Program) (call : CallA) : Prop :=
  ∀ f args H v H', call f args H = some (v, H') → (∃ fn, P.funcs[f]? = some fn ∧ fn.body.isSome = true) ∧
    ∀ φ w args', Sim P φ H w → args'.size = args.length → (∀ (i : Nat) (x y : Value), args[i]? = some x → args'[i]? = some y → ValR P φ H w x y) →
      Calls P f args' w fun e w' => ∃ v', e = .returned v' ∧ Good P φ H w H' v v' w'

/-- An operation comes to what the evaluator says. -/
def OpWp (P : Program) (o : Oper) (a : Act) (φ : Phi) (H : AH) (w : World) (H' : AH) (v : Value) : Prop :=
  ∀ (next : Act → World → Prop) (Q : Exit → Act → World → Prop), (∀ v' w', Good P φ H w H' v v' w' → next (a.put o.dst v') w') → o.wp P a w next Q

theorem OpRun.wp {a : Act} (h : OpRun P o a.eval φ H w H' v) : OpWp P o a φ H w H' v := fun next Q hn => by
  obtain ⟨n, w', hr, hc⟩ := h
  unfold Oper.wp
  rw [hr]
  rcases hc with ⟨v', rfl, g⟩ | ⟨rfl, g⟩
  · exact hn v' w' g
  · exact hn undef w' g

theorem list_array {a : Array Value} {l : List Value} (h : a.toList = l) : a = l.toArray := by rw [← h]

theorem s_call (hp : ProgOk P) {call : CallA} (hcall : CallOk P call) {a : Act} (hs : Sim P φ H w) (hρ : ∀ x, ValR P φ H w (ρ x) (a.eval x)) {c : Call} (ho : o.op = .call c) (h : callA P call o c ρ H = some (v, H')) : OpWp P o a φ H w H' v := by
  have hsel : ∀ cs b, o.op ≠ .select cs b := fun cs b e => by rw [ho] at e; cases e
  have flat : (flatOp P o ρ).map (·, H) = some (v, H') → OpWp P o a φ H w H' v := fun hf => by
    cases hv : flatOp P o ρ with
    | none => rw [hv] at hf; cases hf
    | some v0 => rw [hv] at hf; cases hf; exact (s_flat hs hρ hsel hv).wp
  unfold callA at h
  split at h
  · rename_i x hcal
    split at h
    · rename_i f first cap hx
      cases hfe : first.isEmpty with
      | false => rw [hfe] at h; cases h
      | true =>
        rw [hfe] at h
        have hf0 : first = #[] := by simpa using hfe
        subst hf0
        simp only [cond_true] at h
        obtain ⟨_, cap', hx', hcap⟩ := val_func (hx ▸ hρ x)
        obtain ⟨⟨fn, hfn, hbody⟩, hc⟩ := hcall _ _ _ _ _ h
        intro next Q hn
        unfold Oper.wp
        have hrun : (execOp a.eval o).run P w = .ok (.enter f (c.args.map a.eval ++ cap')) w := by
          have hnm := hp.name f fn hfn hbody
          have hno : fn.body.isNone = false := by cases hb : fn.body <;> simp_all
          simp only [execOp, ho, resolve, hcal, hx', Deferred.ofValue, Sem.run_bind, Sem.run_pure, Result.andThen_ok, invoke, callFunc, run_program, hfn, hnm, hno, Bool.false_eq_true, if_false]
          simp
        rw [hrun]
        refine (hc φ w _ hs (by simp [hcap.1]) (fun i u y hu hy => ?_)).mono fun e w' ⟨v', he, g⟩ => ?_
        · rw [List.getElem?_append] at hu
          rw [Array.getElem?_append] at hy
          simp only [List.length_map, Array.length_toList, Array.size_map] at hu hy
          split at hu
          · rename_i hi
            rw [if_pos hi] at hy
            rw [List.getElem?_map, Array.getElem?_toList] at hu
            rw [Array.getElem?_map] at hy
            obtain ⟨k, hk, rfl⟩ := Option.map_eq_some_iff.1 hu
            rw [hk] at hy; cases hy
            exact hρ k
          · rename_i hi
            rw [if_neg hi] at hy
            exact .part (.cell (.atom (hcap.2 _ u y (by simpa using hu) hy)))
        · subst he; exact hn v' w' g
    · cases h
  · rename_i hcal
    split at h
    · rename_i p n cc e hargs hty
      cases h
      have hsz : c.args.size = 1 := by have := congrArg List.length hargs; simpa using this
      obtain ⟨x, hcx⟩ : ∃ x, c.args = #[x] := by
        match hcl : c.args, hsz with
        | ⟨[x]⟩, _ => exact ⟨x, rfl⟩
      rw [hcx] at hargs
      have hx : ρ x = .slice p n cc := by simpa using hargs
      obtain ⟨t, ht, hu⟩ := Option.bind_eq_some_iff.1 hty
      have hx' : ∃ p' c', a.eval x = .slice p' n c' := by
        have := hρ x
        rw [hx] at this
        cases p with
        | none => exact ⟨_, _, val_nilslice this⟩
        | some p => obtain ⟨q, c', h1, _⟩ := val_slice this; exact ⟨_, _, h1⟩
      obtain ⟨p', c', hx'⟩ := hx'
      refine OpRun.wp (OpRun.value hs (v' := .int .i64 n) ?_ (val_refl rfl))
      simp only [execOp, ho, resolve, hcal, hcx, Sem.run_bind, Sem.run_pure, Result.andThen_ok, invoke, builtin, Builtin.len_, ht, run_underlying hu, hx', List.map_toArray, List.map_cons, List.map_nil, List.getElem?_toArray, List.getElem?_cons_zero, goInt]
    · exact flat h
  · rename_i hcal
    split at h
    · rename_i s x sT hargs hty
      have hsz : c.args.size = 2 := by have := congrArg List.length hargs; simpa using this
      obtain ⟨x0, x1, hcx⟩ : ∃ x0 x1, c.args = #[x0, x1] := by
        match hcl : c.args, hsz with
        | ⟨[x0, x1]⟩, _ => exact ⟨x0, x1, rfl⟩
      rw [hcx] at hargs
      have hx : ρ x0 = s ∧ ρ x1 = x := by simpa using hargs
      obtain ⟨hx0, hx1⟩ := hx
      obtain ⟨v', w', hr, g⟩ := append_sound (ty := o.type) hs hty (hx0 ▸ hρ x0) (hx1 ▸ hρ x1) h
      refine OpRun.wp ⟨.value v', w', ?_, .inl ⟨v', rfl, g⟩⟩
      simp only [execOp, ho, resolve, hcal, hcx, Sem.run_bind, Sem.run_pure, Result.andThen_ok, invoke, builtin, List.map_toArray, List.map_cons, List.map_nil, hr]
    · cases h
  · exact flat h

theorem evOp_sound (hp : ProgOk P) {call : CallA} (hcall : CallOk P call) {a : Act} (hs : Sim P φ H w) (hρ : ∀ x, ValR P φ H w (ρ x) (a.eval x)) (h : evOp P call o ρ H = some (v, H')) : OpWp P o a φ H w H' v := by
  have flat : (∀ cs b, o.op ≠ .select cs b) → (flatOp P o ρ).map (·, H) = some (v, H') → OpWp P o a φ H w H' v := fun hsel hf => by
    cases hv : flatOp P o ρ with
    | none => rw [hv] at hf; cases hf
    | some v0 => rw [hv] at hf; cases hf; exact (s_flat hs hρ hsel hv).wp
  have omap : ∀ {x : Option Value}, x.map (·, H) = some (v, H') → x = some v ∧ H = H' := fun {x} hx => by
    cases x with
    | none => cases hx
    | some x => cases hx; exact ⟨rfl, rfl⟩
  unfold evOp at h
  split at h
  · rename_i x ho; cases h; exact (OpRun.value hs (v' := a.eval x) (by simp [execOp, ho]) (hρ x)).wp
  · rename_i x ho; cases h; exact (OpRun.value hs (v' := a.eval x) (by simp [execOp, ho]) (hρ x)).wp
  · rename_i c x y ho
    split at h
    · rename_i hc; cases h; exact (s_pick hs hρ ho (t := true) hc).wp
    · rename_i hc; cases h; exact (s_pick hs hρ ho (t := false) hc).wp
    · cases h
  · rename_i t ix ho
    split at h
    · rename_i vs ht
      obtain ⟨h1, rfl⟩ := omap h
      exact (s_extract hs hρ ho ht h1).wp
    · cases h
  · rename_i t parts ho
    obtain ⟨h1, rfl⟩ := omap h
    exact (s_build hs hρ ho h1).wp
  · rename_i x ho
    split at h
    · rename_i p hx; cases h; exact (s_nilCheck_ptr hs hρ ho hx).wp
    · rename_i f x1 x2 hx; cases h; exact (s_nilCheck_func hs hρ ho hx).wp
    · cases h
  · rename_i s x f ho
    obtain ⟨h1, rfl⟩ := omap h
    exact (s_fieldAddr hs hρ ho h1).wp
  · rename_i t x i ho
    obtain ⟨h1, rfl⟩ := omap h
    exact (s_indexAddr hs hρ ho h1).wp
  · rename_i t x ho
    split at h
    · rename_i p hx
      obtain ⟨h1, rfl⟩ := omap h
      exact (s_load hs hρ ho hx h1).wp
    · cases h
  · rename_i t x y ho
    split at h
    · rename_i p hx
      cases hst : storeA P H t p (ρ y) with
      | none => rw [hst] at h; cases h
      | some H1 => rw [hst] at h; cases h; exact (s_store hs hρ ho hx hst).wp
    · cases h
  · rename_i e ho
    split at h
    · rename_i z hz; cases h; exact (s_alloc hs ho hz).wp
    · cases h
  · rename_i e x ho
    cases hc : (ρ x).cells.toList.all isCell with
    | false => rw [hc] at h; cases h
    | true => rw [hc] at h; cases h; exact (s_box hs hρ ho hc).wp
  · rename_i t n parts ho; exact (s_buildSlice hs hρ ho h).wp
  · rename_i t l c ho; exact (s_makeSlice hs hρ ho h).wp
  · rename_i fn first cap ho
    split at h
    · rename_i f
      cases hc : (first.isEmpty && cap.toList.all (fun x => capB (ρ x))) with
      | false => rw [hc] at h; cases h
      | true =>
        rw [hc] at h; cases h
        simp only [Bool.and_eq_true] at hc
        exact (s_makeFunc hs hρ ho hc.1 hc.2).wp
    · cases h
  · rename_i t x ho
    split at h
    · cases h
    · rename_i d hnd hu
      cases hc : heldB (ρ x) with
      | false => rw [hc] at h; cases h
      | true => rw [hc] at h; cases h; exact (s_makeInterface hs hρ ho hu (fun m e => hnd m e) hc).wp
    · cases h
  · rename_i t x lo hi mx ho
    split at h
    · obtain ⟨h1, rfl⟩ := omap h
      exact (s_slice hs hρ ho h1).wp
    · exact flat (fun cs b e => by rw [ho] at e; cases e) h
  · rename_i src dst x ho
    split at h
    · rename_i r hr; cases h; exact (s_convert hs hρ ho hr).wp
    · exact flat (fun cs b e => by rw [ho] at e; cases e) h
  · rename_i op t x y yt ho
    split at h
    · rename_i r hr; cases h; exact (s_eql hs hρ ho hr).wp
    · rename_i r hr; cases h; exact (s_neq hs hρ ho hr).wp
    · exact flat (fun cs b e => by rw [ho] at e; cases e) h
  · rename_i t x ho
    split at h
    · rename_i s hu hx; cases h; exact (s_range hs hρ ho hu hx).wp
    · cases h
  · rename_i it ho; exact (s_next hs hρ ho h).wp
  · rename_i c ho; exact s_call hp hcall hs hρ ho h
  · rename_i ho; exact flat (fun cs b e => by rw [ho] at e; cases e) h
  · rename_i ho; exact flat (fun cs b e => by rw [ho] at e; cases e) h
  · rename_i ho; exact flat (fun cs b e => by rw [ho] at e; cases e) h
  · rename_i ho; exact flat (fun cs b e => by rw [ho] at e; cases e) h
  · cases h
end
end Go.Proofs.YtofigleaealbjaaGreatDoor.Ev
