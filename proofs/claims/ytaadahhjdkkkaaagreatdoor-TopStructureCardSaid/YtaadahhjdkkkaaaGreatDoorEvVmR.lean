/-
  Pieces of a run. Between two pieces only a few slots are known; what lies in the heap of one is not looked at in the next.
-/
import Derived.Test.YtaadahhjdkkkaaaGreatDoorEvVmM
import Derived.Test.YtaadahhjdkkkaaaGreatDoorEvLaw
namespace Go.Proofs.YtaadahhjdkkkaaaGreatDoor.Ev
set_option linter.unusedVariables false
set_option linter.unusedSimpArgs false
open Go Go.RowKit
section
variable {P : Program}
def SlotsOk (l : List (Nat × Value)) (n : Nat) (t : Array Value) : Prop := t.size = n ∧ ∀ p, p ∈ l → t[p.1]? = some p.2
def Piece (P : Program) (c : Code) (n : Nat) (l : List (Nat × Value)) (st : St) (l' : List (Nat × Value)) : Prop :=
  ∀ (w : World) (a : Act) (Q : Exit → Act → World → Prop), Tabs w → SlotsOk l n a.tmps → (∀ w' a', Below w.heap.size w w' → Tabs w' → SlotsOk l' n a'.tmps → a'.defers = a.defers → Q st.exit a' w') → c.wp P Q a w
theorem below_trans {w w1 w2 : World} (h : Below w.heap.size w w1) (k : Below w1.heap.size w1 w2) : Below w.heap.size w w2 where
  os := k.os.trans h.os
  tape := k.tape.trans h.tape
  output := k.output.trans h.output
  size := Nat.le_trans h.size k.size
  block := fun i hi => (k.block i (Nat.lt_of_lt_of_le hi h.size)).trans (h.block i hi)
theorem tabs_below {w w' : World} (hT : Tabs w) (h : Below w.heap.size w w') : Tabs w' := Tabs_local (fun g hg => h.block g (tabs_lt hT g hg)) hT
variable {n : Nat} {l l1 l2 : List (Nat × Value)} {st : St} {a b : Code}
theorem piece_seq (h1 : Piece P a n l .nx l1) (h2 : Piece P b n l1 st l2) : Piece P (.seq a b) n l st l2 := fun w ac Q hT hl hk => by
  refine wp_seq (h1 w ac _ hT hl fun w1 a1 hB hT1 hl1 hd => ?_)
  exact h2 w1 a1 Q hT1 hl1 fun w2 a2 hB2 hT2 hl2 hd2 => hk w2 a2 (below_trans hB hB2) hT2 hl2 (hd2.trans hd)
theorem piece_block {i : Nat} (h : Piece P a n l (.ex i) l1) : Piece P (.block i a) n l .nx l1 := fun w ac Q hT hl hk => by
  refine wp_block (h w ac _ hT hl fun w1 a1 hB hT1 hl1 hd => ?_)
  show (if i = i then Q .normal a1 w1 else Q (.exit i) a1 w1)
  rw [if_pos rfl]
  exact hk w1 a1 hB hT1 hl1 hd
theorem piece_scope (h : Piece P a n l st l1) : Piece P (.scope a) n l st l1 := fun w ac Q hT hl hk => by
  refine wp_scope_straight (h w ac _ hT hl fun w1 a1 hB hT1 hl1 hd => ?_)
  have := hk w1 a1 hB hT1 hl1 hd
  cases st with
  | nx => exact this
  | ex i => exact this
  | rt => exact this
theorem piece_rounds (L : Nat → List (Nat × Value)) (m : Nat) {i : Nat} (h : ∀ k, k < m → Piece P a n (L k) .nx (L (k + 1))) (he : Piece P a n (L m) (.ex i) l1) : Piece P (.loop a) n (L 0) (.ex i) l1 := fun w ac Q hT hl hk => by
  refine wp_loop_rounds (m + 1) ?_
  have key : ∀ (j k : Nat), k + j = m → ∀ (w1 : World) (a1 : Act), Below w.heap.size w w1 → Tabs w1 → SlotsOk (L k) n a1.tmps → a1.defers = ac.defers → Code.rounds P a Q (j + 1) a1 w1 := by
    intro j
    induction j with
    | zero =>
      intro k hkm w1 a1 hB hT1 hl1 hd
      have e : k = m := by omega
      subst e
      rw [rounds_succ]
      exact he w1 a1 _ hT1 hl1 fun w2 a2 hB2 hT2 hl2 hd2 => hk w2 a2 (below_trans hB hB2) hT2 hl2 (hd2.trans hd)
    | succ j ih =>
      intro k hkm w1 a1 hB hT1 hl1 hd
      rw [rounds_succ]
      exact h k (by omega) w1 a1 _ hT1 hl1 fun w2 a2 hB2 hT2 hl2 hd2 => ih (k + 1) (by omega) w2 a2 (below_trans hB hB2) hT2 hl2 (hd2.trans hd)
  exact key m 0 (by omega) w ac ⟨rfl, rfl, rfl, Nat.le_refl _, fun _ _ => rfl⟩ hT hl rfl

/-! ### Pieces reckoned by the machine -/
def fvals (l : List (Nat × FV)) : List (Nat × Value) := l.map fun p => (p.1, p.2.val)
def setsE (e : List Value) (l : List (Nat × Value)) : List Value := l.foldl (fun e p => e.set p.1 p.2) e
theorem setsE_len : ∀ (l : List (Nat × Value)) (e : List Value), (setsE e l).length = e.length
  | [], e => rfl
  | p :: r, e => by rw [show setsE e (p :: r) = setsE (e.set p.1 p.2) r from rfl, setsE_len r, List.length_set]
theorem setsE_get : ∀ (l : List (Nat × Value)) (e : List Value) (i : Nat) (x : Value), (setsE e l)[i]? = some x → e[i]? = some x ∨ (i, x) ∈ l
  | [], e, i, x, h => .inl h
  | p :: r, e, i, x, h => by
    rcases setsE_get r (e.set p.1 p.2) i x h with h | h
    · rw [List.getElem?_set] at h
      split at h
      · rename_i hpi
        split at h
        · cases h; subst hpi; exact .inr List.mem_cons_self
        · cases h
      · exact .inl h
    · exact .inr (List.mem_cons_of_mem _ h)
variable {E : Type} {I : EnvI E}
noncomputable def putJ (I : EnvI E) (n : Nat) (k : E → Bool) : List (Nat × FV) → E → Bool
  | [], t => k t
  | p :: r, t => (putS I n (some p.1)).run (putJ I n k r) p.2 t
theorem putJ_ok {k : E → Bool} : ∀ (l : List (Nat × FV)) (t : E) (e : List Value), REv I n t e → putJ I n k l t = true → ∃ t', k t' = true ∧ REv I n t' (setsE e (fvals l))
  | [], t, e, hr, h => ⟨t, h, hr⟩
  | p :: r, t, e, hr, h => by
    obtain ⟨t1, h1, h2⟩ := putS_ok hr (show (putS I n (some p.1)).run (putJ I n k r) p.2 t = true from h)
    exact putJ_ok r t1 _ h2 h1
noncomputable def eqF (v w : FV) : Bool := match v with
  | .nn m => onN (fun x => Nat.beq x m) false w
  | .bb true => onB (fun x => x) false w
  | .bb false => onB (fun x => Bool.not x) false w
  | _ => false
theorem eqF_ok {v w : FV} (h : eqF v w = true) : w = v ∧ flatB v.val = true := by
  unfold eqF at h
  split at h
  · rcases onN_ok h with ⟨m, rfl, h1⟩ | h1
    · rw [Nat.eq_of_beq_eq_true h1]; exact ⟨rfl, rfl⟩
    · cases h1
  · rcases onB_ok h with ⟨b, rfl, h1⟩ | h1
    · have h1 : b = true := h1
      subst h1; exact ⟨rfl, rfl⟩
    · cases h1
  · rcases onB_ok h with ⟨b, rfl, h1⟩ | h1
    · cases b
      · exact ⟨rfl, rfl⟩
      · cases h1
    · cases h1
  · cases h
noncomputable def chkJ (I : EnvI E) (n : Nat) : List (Nat × FV) → E → Bool
  | [], t => true
  | p :: r, t => Bool.and (Nat.blt p.1 n) (Bool.and (eqF p.2 ((opdS I n (.tmp p.1)).run t)) (chkJ I n r t))
theorem chkJ_ok {t : E} {e : List Value} (hr : REv I n t e) (hn : e.length = n) : ∀ (l : List (Nat × FV)), chkJ I n l t = true → ∀ p, p ∈ fvals l → e[p.1]? = some p.2 ∧ flatB p.2 = true
  | [], _, p, hp => by cases hp
  | q :: r, h, p, hp => by
    obtain ⟨h1, h2⟩ := Bool.and_eq_true_iff.1 (show (Nat.blt q.1 n && (eqF q.2 ((opdS I n (.tmp q.1)).run t) && chkJ I n r t)) = true from h)
    obtain ⟨h2, h3⟩ := Bool.and_eq_true_iff.1 h2
    rcases List.mem_cons.1 (show p ∈ (q.1, q.2.val) :: fvals r from hp) with rfl | hp
    · obtain ⟨h4, h5⟩ := eqF_ok h2
      have h6 : rho e (.tmp q.1) = q.2.val := by rw [← opdS_ok hr, h4]
      have h7 : q.1 < e.length := by rw [hn]; simpa using h1
      refine ⟨?_, h5⟩
      have h8 : e.getD q.1 undef = q.2.val := h6
      rw [List.getElem?_eq_getElem h7, ← h8, List.getD_eq_getElem?_getD, List.getElem?_eq_getElem h7]; rfl
    · exact chkJ_ok hr hn r h3 p hp
noncomputable def vmPiece (I : EnvI E) (n : Nat) (P : Program) (ff : FuncId → Bool) (T : RT) (call : CallT) (N : Nat) (j : E) (c : Code) (l : List (Nat × FV)) (st : St) (l' : List (Nat × FV)) : Bool :=
  putJ I n (fun t => (codeS I n P ff T c).run call N (fun t _ => match st with | .nx => chkJ I n l' t | _ => false) (fun id t _ => match st with | .ex i => Bool.and (Nat.beq id i) (chkJ I n l' t) | _ => false) (fun t _ => match st with | .rt => chkJ I n l' t | _ => false) t emptyF) l j
theorem piece_of_vm {ff : FuncId → Bool} {T : RT} {call : CallT} {ca : CallA} {N : Nat} {j : E} {c : Code} {l l' : List (Nat × FV)} (hc : CallR call ca) (hreg : RegOk P (evRegion P ff ca)) (hn : n ≤ I.size) (hj : ∀ m, m < I.size → I.at_ j m = .oo junk)
    (hT : chkCode P ff T c = true) (hfl : (fvals l).all (fun p => flatB p.2) = true) (h : vmPiece I n P ff T call N j c l st l' = true) : Piece P c n (fvals l) st (fvals l') := fun w a Q hTb hl hk => by
  have h0 : REv I n j (List.replicate n junk) := ⟨by simp, hn, fun i hi => by
    rw [hj i (Nat.lt_of_lt_of_le hi hn), List.getElem?_replicate, if_pos hi]; rfl⟩
  obtain ⟨t, h1, h2⟩ := putJ_ok l j _ h0 h
  obtain ⟨st1, t', e', F', H', h3, h4, h5, h6⟩ := codeS_ok hc c hT _ _ _ t _ _ _ h2 empty_R h1
  have hst : st1 = st ∧ chkJ I n l' t' = true := by
    cases st <;> cases st1 <;> first | exact ⟨rfl, h6⟩ | (cases h6; done) | skip
    obtain ⟨h7, h8⟩ := Bool.and_eq_true_iff.1 (show (Nat.beq _ _ && _) = true from h6)
    exact ⟨by rw [Nat.eq_of_beq_eq_true h7], h8⟩
  obtain ⟨rfl, h7⟩ := hst
  have henv : EnvR P (fun _ => none) AH.empty w (setsE (List.replicate n junk) (fvals l)) a.tmps := by
    refine ⟨by rw [hl.1, setsE_len, List.length_replicate], fun i x y hx hy => ?_⟩
    rcases setsE_get _ _ _ _ hx with h | h
    · rw [List.getElem?_replicate] at h
      split at h
      · cases h; exact val_junk
      · cases h
    · have := hl.2 _ h
      simp only at this
      rw [hy] at this
      cases this
      exact val_refl (List.all_eq_true.1 hfl _ h)
  refine evCode_sound hreg N c _ _ st1 e' H' (fun _ => none) w a Q h3 (sim_empty hTb) henv fun φ1 w1 a1 s1 hs1 he1 hd1 => ?_
  have hB := step_ro (fun c r δ b h => by cases h) s1
  refine hk w1 a1 hB (tabs_below hTb hB) ⟨by rw [he1.1, h4.1], fun p hp => ?_⟩ hd1
  obtain ⟨h8, h9⟩ := chkJ_ok h4 h4.1 l' h7 p hp
  have h10 : p.1 < a1.tmps.size := by rw [he1.1]; exact (List.getElem?_eq_some_iff.1 h8).1
  have h11 := he1.2 _ _ _ h8 (Array.getElem?_eq_getElem h10)
  rw [Array.getElem?_eq_getElem h10, ← val_eq h9 h11]
/-- A law of no parameters, all of it in pieces. -/
theorem calls_of_piece {f : FuncId} {fn : Func} {c : Code} {r : Nat} {v : Value} (hf : P.funcs[f]? = some fn) (hb : fn.body = some c) (hr : fn.results.toList = [.tmp r]) (hv : flatB v = true) (h : Piece P c fn.ntmps [] .rt [(r, v)]) (w : World) (hT : Tabs w) :
    Calls P f #[] w fun e w' => e = .returned v ∧ Below w.heap.size w w' := by
  refine calls_of_wp hf hb (h w _ _ hT ⟨by simp, fun p hp => by cases hp⟩ fun w1 a1 hB hT1 hl hd => ?_)
  have h1 := hl.2 _ List.mem_cons_self
  have he : EnvR P (fun _ => none) AH.empty w1 (setsE (List.replicate fn.ntmps junk) [(r, v)]) a1.tmps := by
    refine ⟨by rw [hl.1, setsE_len, List.length_replicate], fun i x y hx hy => ?_⟩
    rcases setsE_get _ _ _ _ hx with h | h
    · rw [List.getElem?_replicate] at h
      split at h
      · cases h; exact val_junk
      · cases h
    · rcases List.mem_cons.1 h with h | h
      · cases h
        simp only at h1
        rw [hy] at h1
        cases h1
        exact val_refl hv
      · cases h
  have hrn : r < fn.ntmps := by
    have := (Array.getElem?_eq_some_iff.1 h1).1
    rw [hl.1] at this; exact this
  obtain ⟨v', h2, h3⟩ := results_rel (fn := fn) (v := v) (sim_empty hT1) he (by
    have e1 : resA P (setsE (List.replicate fn.ntmps junk) [(r, v)]) AH.empty (.tmp r) = some v := by
      show some (((List.replicate fn.ntmps junk).set r v).getD r undef) = some v
      rw [List.getD_eq_getElem?_getD, List.getElem?_set, if_pos rfl, if_pos (by simpa using hrn)]; rfl
    unfold resultsA
    rw [hr, List.mapM_cons, e1]; rfl)
  have : a1.defers = [] ∧ ∃ v', (results fn a1.tmps).run P w1 = .ok v' w1 ∧ (Ending.returned v' = .returned v ∧ Below w.heap.size w w1) := ⟨hd, v', h2, by rw [← val_eq hv h3], hB⟩
  exact this
end
end Go.Proofs.YtaadahhjdkkkaaaGreatDoor.Ev
