/-
  Regions that draw their order: an operation looks at its operands alone.
-/
import Derived.Test.YtaadahhjdkkkaaaGreatDoorEvStep
namespace Go.Proofs.YtaadahhjdkkkaaaGreatDoor.Ev
set_option linter.unusedVariables false
set_option linter.unusedSimpArgs false
open Go
section
variable {P : Program} {call : CallA} {o : Oper} {ρ ρ' : Operand → Value} {H : AH}

theorem all_congr' {α : Type} {p q : α → Bool} : ∀ {l : List α}, (∀ x ∈ l, p x = q x) → l.all p = l.all q
  | [], _ => rfl
  | a :: l, h => by simp only [List.all_cons]; rw [h a (by simp), all_congr' fun x hx => h x (by simp [hx])]

theorem flatOp_congr (hs : ∀ cs b, o.op ≠ .select cs b) (h : ∀ x ∈ o.op.operands, ρ x = ρ' x) : flatOp P o ρ = flatOp P o ρ' := by
  have hall : o.op.operands.toList.all (fun x => flatB (ρ x)) = o.op.operands.toList.all (fun x => flatB (ρ' x)) := by
    refine all_congr' fun x hx => ?_
    rw [h x (by simpa using hx)]
  unfold flatOp
  rw [hall, execOp_congr o hs h]

theorem map_congr_ops {l : Array Operand} (h : ∀ x ∈ l, ρ x = ρ' x) : l.toList.map ρ = l.toList.map ρ' := List.map_congr_left fun x hx => h x (by simpa using hx)

theorem evOp_congr (hs : ∀ cs b, o.op ≠ .select cs b) (h : ∀ x ∈ o.op.operands, ρ x = ρ' x) : evOp P call o ρ H = evOp P call o ρ' H := by
  have hf := flatOp_congr (P := P) hs h
  have pairs : ∀ ps : Array (Nat × Operand), (∀ x ∈ (ps.toList.map (·.2)).toArray, ρ x = ρ' x) → ps.toList.map (fun p => (p.1, ρ p.2)) = ps.toList.map fun p => (p.1, ρ' p.2) := fun ps hp =>
    List.map_congr_left fun p hm => by rw [hp p.2 (by simp; exact ⟨p.1, by simpa using hm⟩)]
  have opt : ∀ (m : Option Operand), (∀ x ∈ m.toArray, ρ x = ρ' x) → m.map ρ = m.map ρ' := fun m hm => by
    cases m with
    | none => rfl
    | some x => simp [hm x (by simp)]
  obtain ⟨dst, op, type, pos, after, guard⟩ := o
  cases op with
  | move x => simp only [evOp]; rw [h x (by simp [Op.operands])]
  | assign x => simp only [evOp]; rw [h x (by simp [Op.operands])]
  | pick c a b => simp only [evOp]; rw [h c (by simp [Op.operands]), h a (by simp [Op.operands]), h b (by simp [Op.operands])]
  | extract t ix => simp only [evOp]; rw [h t (by simp [Op.operands])]
  | build t ps => simp only [evOp]; rw [pairs ps (by simpa [Op.operands] using h)]
  | buildSlice t n ps => simp only [evOp]; rw [pairs ps (by simpa [Op.operands] using h)]
  | nilCheck x => simp only [evOp]; rw [h x (by simp [Op.operands])]
  | fieldAddr s x f => simp only [evOp]; rw [h x (by simp [Op.operands])]
  | indexAddr t x i => simp only [evOp]; rw [h x (by simp [Op.operands]), h i (by simp [Op.operands])]
  | load t a => simp only [evOp]; rw [h a (by simp [Op.operands])]
  | store t a x => simp only [evOp]; rw [h a (by simp [Op.operands]), h x (by simp [Op.operands])]
  | alloc e => rfl
  | box e x => simp only [evOp]; rw [h x (by simp [Op.operands])]
  | makeSlice t l c => simp only [evOp]; rw [h l (by simp [Op.operands]), h c (by simp [Op.operands])]
  | makeInterface t x => simp only [evOp]; rw [h x (by simp [Op.operands])]
  | range t x => simp only [evOp]; rw [h x (by simp [Op.operands])]
  | next it b => cases b <;> simp only [evOp]; rw [h it (by simp [Op.operands])]
  | binOp op t x y t' => simp only [evOp, hf]; rw [h x (by simp [Op.operands]), h y (by simp [Op.operands])]
  | convert s d x => simp only [evOp, hf]; rw [h x (by simp [Op.operands])]
  | slice t x lo hi mx =>
    simp only [evOp, hf]
    rw [h x (by simp [Op.operands]), opt lo fun y hy => h y (by simp [Op.operands] at hy ⊢; simp [hy]), opt hi fun y hy => h y (by simp [Op.operands] at hy ⊢; simp [hy]), opt mx fun y hy => h y (by simp [Op.operands] at hy ⊢; simp [hy])]
  | makeFunc fn first cap =>
    simp only [evOp]
    have hc : cap.map ρ = cap.map ρ' := Array.map_congr_left fun x hx => h x (by simp [Op.operands, hx])
    have hb : cap.toList.all (fun x => capB (ρ x)) = cap.toList.all (fun x => capB (ρ' x)) := all_congr' fun x hx => by rw [h x (by simp [Op.operands]; right; simpa using hx)]
    simp only [hc, hb]
  | call c =>
    simp only [evOp]
    unfold callA
    have ha : c.args.toList.map ρ = c.args.toList.map ρ' := map_congr_ops fun x hx => h x (by simp [Op.operands, Call.operands, hx])
    cases hcal : c.callee with
    | value x =>
      simp only [ha]
      rw [h x (by simp [Op.operands, Call.operands, hcal])]
    | builtin b => cases b <;> simp only [ha, hf]
    | invoke r n => simp only [hf]
  | unOp op t x => simp only [evOp, hf]
  | index t x i => simp only [evOp, hf]
  | field t x f => simp only [evOp, hf]
  | typeAssert x t a b => simp only [evOp, hf]
  | makeMap t r => cases r <;> rfl
  | lookup t m k ok => simp only [evOp]; rw [h m (by simp [Op.operands]), h k (by simp [Op.operands])]
  | mapUpdate t m k x => simp only [evOp]; rw [h m (by simp [Op.operands]), h k (by simp [Op.operands]), h x (by simp [Op.operands])]
  | _ => rfl

/-! ### What lies in the temporaries behind a set of operations -/
variable {ops : Array Oper} {W : Nat → Value} {S S' : Nat → Bool} {e0 : List Value}

def envOf (ops : Array Oper) (W : Nat → Value) (S : Nat → Bool) (e0 : List Value) : Nat → List Value
  | 0 => e0
  | k + 1 => if S k then putE (envOf ops W S e0 k) (dstOf ops k) (W k) else envOf ops W S e0 k

theorem putE_length {e : List Value} {d : Option Tmp} {v : Value} : (putE e d v).length = e.length := by cases d <;> simp [putE]
theorem envOf_length : ∀ n, (envOf ops W S e0 n).length = e0.length
  | 0 => rfl
  | n + 1 => by simp only [envOf]; split <;> simp [putE_length, envOf_length n]

theorem putE_get_ne {e : List Value} {d : Option Tmp} {v : Value} {t : Tmp} (h : d ≠ some t) : (putE e d v)[t]? = e[t]? := by
  cases d with
  | none => rfl
  | some d =>
    have : d ≠ t := fun e => h (congrArg some e)
    simp [putE, List.getElem?_set, this]
theorem putE_get_eq {e e' : List Value} {v : Value} {t : Tmp} (h : e.length = e'.length) : (putE e (some t) v)[t]? = (putE e' (some t) v)[t]? := by
  simp [putE, List.getElem?_set, h]

/-- A temporary looks at who writes it alone. -/
theorem envOf_at (t : Tmp) : ∀ n, (∀ k, k < n → dstOf ops k = some t → S k = S' k) → (envOf ops W S e0 n)[t]? = (envOf ops W S' e0 n)[t]?
  | 0, _ => rfl
  | n + 1, h => by
    have ih := envOf_at t n fun k hk => h k (by omega)
    simp only [envOf]
    by_cases hd : dstOf ops n = some t
    · rw [h n (by omega) hd]
      split
      · rw [hd]; exact putE_get_eq (by rw [envOf_length, envOf_length])
      · exact ih
    · split <;> split <;> simp only [putE_get_ne hd, ih]

theorem putE_comm {e : List Value} {d d' : Option Tmp} {v v' : Value} (h : d = none ∨ d ≠ d') : putE (putE e d v) d' v' = putE (putE e d' v') d v := by
  cases d with
  | none => rfl
  | some a =>
    cases d' with
    | none => rfl
    | some b =>
      have : a ≠ b := fun e => by rcases h with h | h; cases h; exact h (congrArg some e)
      simp only [putE]
      exact List.set_comm _ _ this

/-- One more operation, of which no later one that was done writes the same. -/
theorem envOf_add (j : Nat) (hj : S j = false) : ∀ n, j < n → (∀ k, j < k → k < n → S k = true → dstOf ops j = none ∨ dstOf ops j ≠ dstOf ops k) →
    envOf ops W (fun k => S k || Nat.beq k j) e0 n = putE (envOf ops W S e0 n) (dstOf ops j) (W j)
  | 0, h, _ => absurd h (by omega)
  | n + 1, h, hk => by
    by_cases hn : n = j
    · subst hn
      have h0 : ∀ m, m ≤ n → envOf ops W (fun k => S k || Nat.beq k n) e0 m = envOf ops W S e0 m := by
        intro m hm
        induction m with
        | zero => rfl
        | succ m ih =>
          have hb : Nat.beq m n = false := Bool.eq_false_iff.2 fun h => by have := Nat.eq_of_beq_eq_true h; omega
          simp only [envOf, hb, Bool.or_false]
          rw [ih (by omega)]
      have hb : Nat.beq n n = true := Nat.beq_refl n
      simp only [envOf, hb, Bool.or_true, if_true, hj, Bool.false_eq_true, if_false]
      rw [h0 n (Nat.le_refl _)]
    · have ih := envOf_add j hj n (by omega) fun k h1 h2 => hk k h1 (by omega)
      have hb : Nat.beq n j = false := Bool.eq_false_iff.2 fun h => hn (Nat.eq_of_beq_eq_true h)
      simp only [envOf, hb, Bool.or_false]
      split
      · rename_i hs
        rw [ih]
        exact putE_comm (hk n (by omega) (by omega) hs)
      · exact ih


/-! ### The states ahead of each operation -/
/-- One operation, in the text's order. -/
def Stp (P : Program) (call : CallA) (ops : Array Oper) (o : Oper) (e : List Value) (H : AH) (v : Value) (H' : AH) : Prop :=
  (guardA ops o e = some true ∧ evOp P call o (rho e) H = some (v, H')) ∨ (guardA ops o e = some false ∧ v = undef ∧ H' = H)

theorem trace : ∀ (l : List Oper) (e : List Value) (H : AH) (e' : List Value) (H' : AH), evOps P call ops l e H = some (e', H') →
    ∃ (W : Nat → Value) (E : Nat → List Value) (K : Nat → AH), E 0 = e ∧ K 0 = H ∧ E l.length = e' ∧ K l.length = H' ∧
      ∀ i o, l[i]? = some o → Stp P call ops o (E i) (K i) (W i) (K (i + 1)) ∧ E (i + 1) = putE (E i) o.dst (W i)
  | [], e, H, e', H', h => by
    simp only [evOps] at h; cases h
    exact ⟨fun _ => undef, fun _ => e, fun _ => H, rfl, rfl, rfl, rfl, fun i o h => by simp at h⟩
  | o :: r, e, H, e', H', h => by
    have key : ∀ v H1, Stp P call ops o e H v H1 → evOps P call ops r (putE e o.dst v) H1 = some (e', H') →
        ∃ (W : Nat → Value) (E : Nat → List Value) (K : Nat → AH), E 0 = e ∧ K 0 = H ∧ E (o :: r).length = e' ∧ K (o :: r).length = H' ∧
          ∀ i x, (o :: r)[i]? = some x → Stp P call ops x (E i) (K i) (W i) (K (i + 1)) ∧ E (i + 1) = putE (E i) x.dst (W i) := fun v H1 hs hr => by
      obtain ⟨W, E, K, h1, h2, h3, h4, h5⟩ := trace r _ _ _ _ hr
      refine ⟨fun i => match i with | 0 => v | i + 1 => W i, fun i => match i with | 0 => e | i + 1 => E i, fun i => match i with | 0 => H | i + 1 => K i, rfl, rfl, h3, h4, fun i x hx => ?_⟩
      cases i with
      | zero =>
        simp at hx
        subst hx
        exact ⟨by show Stp P call ops o e H v (K 0); rw [h2]; exact hs, h1⟩
      | succ i => exact h5 i x (by simpa using hx)
    unfold evOps at h
    split at h
    · rename_i hg
      split at h
      case h_2 => cases h
      rename_i v H1 ho
      exact key v H1 (.inl ⟨hg, ho⟩) h
    · rename_i hg
      exact key undef H (.inr ⟨hg, rfl, rfl⟩) h
    · cases h

/-- The text's order, told by sets. -/
theorem trace_env {e0 : List Value} {E : Nat → List Value} {n : Nat} (h0 : E 0 = e0) (h : ∀ i o, ops[i]? = some o → E (i + 1) = putE (E i) o.dst (W i)) (hn : n ≤ ops.size) : E n = envOf ops W (fun _ => true) e0 n := by
  induction n with
  | zero => exact h0
  | succ n ih =>
    have ho : ops[n]? = some ops[n] := Array.getElem?_eq_getElem (by omega)
    rw [h n _ ho, ih (by omega)]
    simp only [envOf, if_true, dstOf, ho, Option.bind_some]


/-! ### What must stand ahead -/
theorem before_closed (S : Nat → Bool) (hS : ∀ j o, ops[j]? = some o → S j = true → ∀ e, e ∈ o.after.toList → Region.binds .any e = true → S e.on = true) :
    ∀ j i, ((Region.before ops).getD j 0).testBit i = true → S j = true → S i = true := by
  have inner : ∀ (acc : Array Nat) (l : List Edge) (s0 : Nat) (i : Nat), (l.foldl (fun s e => if Region.binds .any e then s ||| 2 ^ e.on ||| acc.getD e.on 0 else s) s0).testBit i = true →
      s0.testBit i = true ∨ ∃ e, e ∈ l ∧ Region.binds .any e = true ∧ (e.on = i ∨ (acc.getD e.on 0).testBit i = true) := by
    intro acc l
    induction l with
    | nil => intro s0 i h; exact .inl h
    | cons e l ih =>
      intro s0 i h
      rw [List.foldl_cons] at h
      rcases ih _ i h with h1 | ⟨e2, h1, h2, h3⟩
      · split at h1
        · rename_i hb
          rw [Nat.testBit_or, Nat.testBit_or] at h1
          simp only [Bool.or_eq_true] at h1
          rcases h1 with (h1 | h1) | h1
          · exact .inl h1
          · rw [Nat.testBit_two_pow] at h1
            exact .inr ⟨e, by simp, hb, .inl (by simpa using h1)⟩
          · exact .inr ⟨e, by simp, hb, .inr h1⟩
        · exact .inl h1
      · exact .inr ⟨e2, by simp [h1], h2, h3⟩
  have outer : ∀ (l : List Oper) (k : Nat) (acc : Array Nat), acc.size = k → (∀ m o, l[m]? = some o → ops[k + m]? = some o) → (∀ j i, (acc.getD j 0).testBit i = true → S j = true → S i = true) →
      ∀ j i, ((l.foldl (fun acc o => acc.push (o.after.foldl (fun s e => if Region.binds .any e then s ||| 2 ^ e.on ||| acc.getD e.on 0 else s) 0)) acc).getD j 0).testBit i = true → S j = true → S i = true := by
    intro l
    induction l with
    | nil => intro k acc _ _ h; exact h
    | cons o l ih =>
      intro k acc hk hl h
      rw [List.foldl_cons]
      refine ih (k + 1) _ (by simp [hk]) (fun m x hm => by have := hl (m + 1) x (by simpa using hm); rwa [show k + 1 + m = k + (m + 1) by omega]) ?_
      intro j i hb hs
      rw [Array.getD_eq_getD_getElem?, Array.getElem?_push] at hb
      split at hb
      · rename_i hj
        subst hj
        simp only [Option.getD_some] at hb
        rw [← Array.foldl_toList] at hb
        rcases inner acc _ 0 i hb with h0 | ⟨e, h1, h2, h3⟩
        · simp at h0
        · have hse := hS acc.size o (by have := hl 0 o rfl; rwa [hk]) hs e h1 h2
          rcases h3 with rfl | h3
          · exact hse
          · exact h e.on i h3 hse
      · exact h j i (by rw [Array.getD_eq_getD_getElem?]; exact hb) hs
  intro j i hb hs
  unfold Region.before at hb
  rw [← Array.foldl_toList] at hb
  exact outer ops.toList 0 #[] rfl (fun m o hm => by rw [Nat.zero_add, ← Array.getElem?_toList]; exact hm) (fun j i h => by simp at h) j i hb hs


theorem temps_spec (h : tempsB ops = true) {i j : Nat} {o : Oper} {t : Tmp} (hj : ops[j]? = some o) (hi : dstOf ops i = some t) (ht : t ∈ namesOf o) (hne : i ≠ j) : ((Region.before ops).getD (max i j) 0).testBit (min i j) = true := by
  have hjl : j < ops.size := (Array.getElem?_eq_some_iff.1 hj).1
  have hil : i < ops.size := by
    unfold dstOf at hi
    cases ho : ops[i]? with
    | none => rw [ho] at hi; cases hi
    | some x => exact (Array.getElem?_eq_some_iff.1 ho).1
  have h1 := List.all_eq_true.1 h j (List.mem_range.2 hjl)
  rw [hj] at h1
  have h2 := List.all_eq_true.1 h1 i (List.mem_range.2 hil)
  have hb : Nat.beq i j = false := Bool.eq_false_iff.2 fun h => hne (Nat.eq_of_beq_eq_true h)
  rw [hb, hi] at h2
  simpa [ht] using h2
theorem back_spec (h : backB ops = true) {j : Nat} {o : Oper} (hj : ops[j]? = some o) {e : Edge} (he : e ∈ o.after.toList) (hb : Region.binds .any e = true) : e.on < j := by
  have hjl : j < ops.size := (Array.getElem?_eq_some_iff.1 hj).1
  have h1 := List.all_eq_true.1 h j (List.mem_range.2 hjl)
  rw [hj] at h1
  have h2 := List.all_eq_true.1 h1 e he
  rw [hb] at h2
  simpa using h2

/-- An operation finds its operands as in the text's order, wherever it stands. -/
theorem env_agrees (htm : tempsB ops = true) (hS : ∀ j o, ops[j]? = some o → S j = true → ∀ e, e ∈ o.after.toList → Region.binds .any e = true → S e.on = true)
    {j : Nat} {o : Oper} (hj : ops[j]? = some o) (hno : S j = false) (hpre : ∀ i, i < j → ((Region.before ops).getD j 0).testBit i = true → S i = true) {t : Tmp} (ht : t ∈ namesOf o) :
    (envOf ops W S e0 ops.size)[t]? = (envOf ops W (fun k => Nat.blt k j) e0 ops.size)[t]? := by
  refine envOf_at t _ fun k hk hd => ?_
  by_cases hkj : k = j
  · subst hkj
    rw [hno]
    exact (Bool.eq_false_iff.2 (by simp)).symm
  · have hb := temps_spec htm hj hd ht hkj
    by_cases hlt : k < j
    · rw [Nat.max_eq_right (by omega), Nat.min_eq_left (by omega)] at hb
      rw [hpre k hlt hb]
      simp [hlt]
    · rw [Nat.max_eq_left (by omega), Nat.min_eq_right (by omega)] at hb
      have : S k = false := by
        cases hs : S k with
        | false => rfl
        | true => rw [before_closed S hS k j hb hs] at hno; cases hno
      rw [this]
      exact (Bool.eq_false_iff.2 (by simp; omega)).symm


/-! ### Regions that leave the heap alone -/
theorem map_heap {x : Option Value} {v : Value} {H' : AH} (h : x.map (·, H) = some (v, H')) : H' = H := by
  cases x with
  | none => cases h
  | some y => cases h; rfl

theorem evOp_calm {v : Value} {H' : AH} (hc : calmB o.op = true) (h : evOp P call o ρ H = some (v, H')) : H' = H := by
  obtain ⟨dst, op, type, pos, after, guard⟩ := o
  cases op <;> simp only [calmB] at hc <;> try (cases hc; done)
  case call c =>
    simp only [evOp] at h
    unfold callA at h
    split at hc
    · rename_i hcal
      rw [hcal] at h
      simp only at h
      split at h
      · cases h; rfl
      · rename_i m _ _ _ _
        cases hm : mapRow H m with
        | none => rw [hm] at h; cases h
        | some es => rw [hm] at h; cases h; rfl
      · exact map_heap h
    · cases hc
  all_goals simp only [evOp] at h
  all_goals first
    | (exact map_heap h)
    | (cases h; rfl)
    | ((repeat' split at h) <;> first | exact map_heap h | (cases h; done) | (cases h; rfl))


theorem envOf_lt (j : Nat) : ∀ n, j ≤ n → envOf ops W (fun k => Nat.blt k j) e0 n = envOf ops W (fun _ => true) e0 j
  | 0, h => by
    obtain rfl : j = 0 := by omega
    rfl
  | n + 1, h => by
    by_cases hj : j = n + 1
    · subst hj
      have : ∀ m, m ≤ n + 1 → envOf ops W (fun k => Nat.blt k (n + 1)) e0 m = envOf ops W (fun _ => true) e0 m := by
        intro m hm
        induction m with
        | zero => rfl
        | succ m ih =>
          have hb : Nat.blt m (n + 1) = true := by simp; omega
          simp only [envOf, hb, if_true]
          rw [ih (by omega)]
      exact this _ (Nat.le_refl _)
    · have hb : Nat.blt n j = false := Bool.eq_false_iff.2 (by simp; omega)
      simp only [envOf, hb, Bool.false_eq_true, if_false]
      exact envOf_lt j n (by omega)

theorem ready_spec {listed : Array Bool} {i : Nat} (h : i ∈ Region.ready .any ops listed) : i < ops.size ∧ listed.getD i true = false ∧ ∃ o, ops[i]? = some o ∧ ∀ e, e ∈ o.after.toList → Region.binds .any e = true → listed.getD e.on false = true := by
  unfold Region.ready at h
  rw [List.mem_filter, List.mem_range] at h
  obtain ⟨h1, h2⟩ := h
  rw [Bool.and_eq_true] at h2
  refine ⟨h1, by simpa using h2.1, ops[i], Array.getElem?_eq_getElem h1, fun e he hb => ?_⟩
  have h3 := h2.2
  rw [Array.getElem?_eq_getElem h1] at h3
  simp only [Option.map_some, Option.getD_some] at h3
  rw [← Array.all_toList] at h3
  have := List.all_eq_true.1 h3 e he
  simpa [hb] using this

theorem ready_nil {listed : Array Bool} (hbk : backB ops = true) (hl : listed.size = ops.size) (h : Region.ready .any ops listed = []) : ∀ j, j < ops.size → listed.getD j false = true := by
  intro j
  induction j using Nat.strongRecOn with
  | _ j ih =>
    intro hj
    cases hc : listed.getD j false with
    | true => rfl
    | false =>
      have hmem : j ∈ Region.ready .any ops listed := by
        unfold Region.ready
        rw [List.mem_filter, List.mem_range]
        refine ⟨hj, ?_⟩
        have h0 : listed.getD j true = false := by
          rw [Array.getD_eq_getD_getElem?, Array.getElem?_eq_getElem (by omega)] at hc ⊢
          exact hc
        rw [h0, Array.getElem?_eq_getElem hj]
        simp only [Bool.not_false, Bool.true_and, Option.map_some, Option.getD_some]
        rw [← Array.all_toList]
        refine List.all_eq_true.2 fun e he => ?_
        cases hb : Region.binds .any e with
        | false => rfl
        | true =>
          have hlt := back_spec hbk (Array.getElem?_eq_getElem hj) he hb
          rw [ih e.on hlt (by omega)]
          rfl
      rw [h] at hmem
      cases hmem


theorem filter_le {α : Type} (p q : α → Bool) (h : ∀ x, q x = true → p x = true) : ∀ l : List α, (l.filter q).length ≤ (l.filter p).length
  | [] => Nat.le_refl _
  | a :: l => by
    have ih := filter_le p q h l
    simp only [List.filter_cons]
    cases hq : q a with
    | true => rw [h a hq]; simpa using ih
    | false => cases hp : p a <;> simp <;> omega
theorem filter_lt {α : Type} (p q : α → Bool) (h : ∀ x, q x = true → p x = true) : ∀ (l : List α) (i : α), i ∈ l → p i = true → q i = false → (l.filter q).length < (l.filter p).length
  | [], _, hi, _, _ => by cases hi
  | a :: l, i, hi, hp, hq => by
    simp only [List.filter_cons]
    rcases List.mem_cons.1 hi with rfl | hi
    · rw [hp, hq]
      have := filter_le p q h l
      simp
      omega
    · have ih := filter_lt p q h l i hi hp hq
      cases hqa : q a with
      | true => rw [h a hqa]; simpa using ih
      | false => cases hpa : p a <;> simp <;> omega

theorem evOp_names {e e' : List Value} (hs : ∀ cs b, o.op ≠ .select cs b) (h : ∀ t, t ∈ namesOf o → e[t]? = e'[t]?) : evOp P call o (rho e) H = evOp P call o (rho e') H := by
  refine evOp_congr hs fun x hx => ?_
  cases x with
  | tmp t =>
    have ht : t ∈ namesOf o := by
      unfold namesOf
      refine List.mem_append_right _ (List.mem_filterMap.2 ⟨.tmp t, by simpa using hx, rfl⟩)
    show e.getD t undef = e'.getD t undef
    rw [List.getD_eq_getElem?_getD, List.getD_eq_getElem?_getD, h t ht]
  | _ => rfl

theorem closed_set {listed : Array Bool} {i : Nat} (hl : listed.size = ops.size) (hi : i < ops.size) (hS : ∀ j o, ops[j]? = some o → listed.getD j false = true → ∀ e, e ∈ o.after.toList → Region.binds .any e = true → listed.getD e.on false = true)
    {o : Oper} (ho : ops[i]? = some o) (hr : ∀ e, e ∈ o.after.toList → Region.binds .any e = true → listed.getD e.on false = true) :
    ∀ j o, ops[j]? = some o → (listed.setIfInBounds i true).getD j false = true → ∀ e, e ∈ o.after.toList → Region.binds .any e = true → (listed.setIfInBounds i true).getD e.on false = true := by
  have up : ∀ k, listed.getD k false = true → (listed.setIfInBounds i true).getD k false = true := fun k hk => by
    rw [Array.getD_eq_getD_getElem?, Array.getElem?_setIfInBounds]
    split
    · rw [if_pos (by omega)]; rfl
    · rw [← Array.getD_eq_getD_getElem?]; exact hk
  intro j x hj hs e he hb
  by_cases hij : i = j
  · subst hij
    rw [ho] at hj; cases hj
    exact up _ (hr e he hb)
  · rw [Array.getD_eq_getD_getElem?, Array.getElem?_setIfInBounds, if_neg hij, ← Array.getD_eq_getD_getElem?] at hs
    exact up _ (hS j x hj hs e he hb)

theorem calm_any (hp : ProgOk P) (hcall : CallOk P call) (htm : tempsB ops = true) (hbk : backB ops = true) (hcalm : ∀ o, o ∈ ops → calmB o.op = true ∧ o.guard = none) {E : Nat → List Value}
    (hE : ∀ i o, ops[i]? = some o → evOp P call o (rho (E i)) H = some (W i, H) ∧ E i = envOf ops W (fun _ => true) e0 i) {φ0 : Phi} {w0 : World} {df : List Deferred} {Q : Exit → Act → World → Prop} (hs0 : Sim P φ0 H w0)
    (hk : ∀ φ w a, Step P φ0 H w0 φ H w → Sim P φ H w → EnvR P φ H w (envOf ops W (fun _ => true) e0 ops.size) a.tmps → a.defers = df → Q .normal a w) :
    ∀ (fuel : Nat) (listed : Array Bool) (a : Act) (w : World) (φ : Phi), listed.size = ops.size → ((List.range ops.size).filter fun k => !listed.getD k false).length ≤ fuel →
      (∀ j o, ops[j]? = some o → listed.getD j false = true → ∀ e, e ∈ o.after.toList → Region.binds .any e = true → listed.getD e.on false = true) →
      Step P φ0 H w0 φ H w → Sim P φ H w → EnvR P φ H w (envOf ops W (fun k => listed.getD k false) e0 ops.size) a.tmps → a.defers = df → wpAny P .any ops Q fuel listed a w := by
  have fin : ∀ (listed : Array Bool) (a : Act) (w : World) (φ : Phi), listed.size = ops.size → Region.ready .any ops listed = [] → Step P φ0 H w0 φ H w → Sim P φ H w → EnvR P φ H w (envOf ops W (fun k => listed.getD k false) e0 ops.size) a.tmps → a.defers = df → Q .normal a w := by
    intro listed a w φ hl hr st hs he hd
    have hall := ready_nil hbk hl hr
    refine hk φ w a st hs ?_ hd
    have : envOf ops W (fun k => listed.getD k false) e0 ops.size = envOf ops W (fun _ => true) e0 ops.size := by
      have go : ∀ n, n ≤ ops.size → envOf ops W (fun k => listed.getD k false) e0 n = envOf ops W (fun _ => true) e0 n := by
        intro n hn
        induction n with
        | zero => rfl
        | succ n ih => simp only [envOf, hall n (by omega), if_true]; rw [ih (by omega)]
      exact go _ (Nat.le_refl _)
    rwa [this] at he
  intro fuel
  induction fuel with
  | zero =>
    intro listed a w φ hl hc hS st hs he hd
    have hr : Region.ready .any ops listed = [] := by
      cases hr : Region.ready .any ops listed with
      | nil => rfl
      | cons i r =>
        have hm := ready_spec (show i ∈ Region.ready .any ops listed by rw [hr]; simp)
        have : i ∈ (List.range ops.size).filter fun k => !listed.getD k false := by
          rw [List.mem_filter, List.mem_range]
          refine ⟨hm.1, ?_⟩
          have h0 := hm.2.1
          rw [Array.getD_eq_getD_getElem?, Array.getElem?_eq_getElem (by omega)] at h0 ⊢
          simpa using h0
        have hnil := List.length_eq_zero_iff.1 (Nat.le_zero.1 hc)
        rw [hnil] at this
        cases this
    exact ⟨hr, fin listed a w φ hl hr st hs he hd⟩
  | succ fuel ih =>
    intro listed a w φ hl hc hS st hs he hd
    refine ⟨fun hr => fin listed a w φ hl hr st hs he hd, fun i hi => ?_⟩
    obtain ⟨hil, hno, o, ho, hpre⟩ := ready_spec hi
    have hno' : listed.getD i false = false := by
      rw [Array.getD_eq_getD_getElem?, Array.getElem?_eq_getElem (by omega)] at hno ⊢
      exact hno
    have hmem : o ∈ ops := Array.mem_of_getElem? ho
    obtain ⟨hca, hgu⟩ := hcalm o hmem
    have hsel : ∀ cs b, o.op ≠ .select cs b := fun cs b e => by rw [e] at hca; cases hca
    have hcl := closed_set hl hil hS ho hpre
    have hfun : (fun k => (listed.setIfInBounds i true).getD k false) = fun k => listed.getD k false || Nat.beq k i := by
      funext k
      rw [Array.getD_eq_getD_getElem?, Array.getElem?_setIfInBounds]
      by_cases hik : i = k
      · subst hik
        rw [if_pos rfl, if_pos (by omega), Nat.beq_refl]
        simp
      · have hb : Nat.beq k i = false := Bool.eq_false_iff.2 fun h => hik (Nat.eq_of_beq_eq_true h).symm
        rw [if_neg hik, hb, Bool.or_false, ← Array.getD_eq_getD_getElem?]
    have hii : (listed.setIfInBounds i true).getD i false = true := by
      have h4 := congrFun hfun i
      rw [h4, Nat.beq_refl]
      simp
    have hop : evOp P call o (rho (envOf ops W (fun k => listed.getD k false) e0 ops.size)) H = some (W i, H) := by
      have h1 := hE i o ho
      rw [h1.2, ← envOf_lt i ops.size (by omega)] at h1
      rw [← h1.1]
      refine evOp_names hsel fun t ht => env_agrees htm hS ho hno' (fun k hki hb => ?_) ht
      have h2 := before_closed (fun k => (listed.setIfInBounds i true).getD k false) hcl i k hb hii
      have h4 := congrFun hfun k
      rw [h4] at h2
      have hb2 : Nat.beq k i = false := Bool.eq_false_iff.2 fun h => by have := Nat.eq_of_beq_eq_true h; omega
      simpa [hb2] using h2
    have hadd : envOf ops W (fun k => (listed.setIfInBounds i true).getD k false) e0 ops.size = putE (envOf ops W (fun k => listed.getD k false) e0 ops.size) o.dst (W i) := by
      have hd2 : dstOf ops i = o.dst := by unfold dstOf; rw [ho]; rfl
      rw [hfun, ← hd2]
      refine envOf_add i hno' ops.size hil fun k hik hkn hsk => ?_
      cases hdi : dstOf ops i with
      | none => exact .inl rfl
      | some t =>
        refine .inr fun heq => ?_
        have hko : ops[k]? = some ops[k] := Array.getElem?_eq_getElem hkn
        have hdk : ops[k].dst = some t := by have : dstOf ops k = ops[k].dst := by unfold dstOf; rw [hko]; rfl
                                             rw [← this, ← heq]
        have hb := temps_spec htm hko hdi (show t ∈ namesOf ops[k] by unfold namesOf; rw [hdk]; simp) (by omega)
        rw [Nat.max_eq_right (by omega), Nat.min_eq_left (by omega)] at hb
        have h3 := before_closed (fun k => listed.getD k false) hS k i hb hsk
        rw [hno'] at h3
        cases h3
    unfold wpOp
    rw [ho]
    have hw : Region.wanted o (yielded ops a.tmps) = true := by unfold Region.wanted; rw [hgu]
    simp only [hw, if_true]
    refine .inl (evOp_sound hp hcall hs (fun x => he.rho x) hop _ Q fun v' w' ⟨φ', st', hs', hv'⟩ => ?_)
    refine ih _ _ _ φ' (by simpa using hl) ?_ hcl (st.trans hs0 st') hs' ?_ (by rw [put_defers', hd])
    · have hlt : ((List.range ops.size).filter fun k => !(listed.setIfInBounds i true).getD k false).length < ((List.range ops.size).filter fun k => !listed.getD k false).length := by
        refine filter_lt _ _ (fun x hx => ?_) _ i (List.mem_range.2 hil) (by simp [hno']) (by simp [hii])
        have h4 := congrFun hfun x
        rw [h4] at hx
        simp at hx
        simp [hx.1]
      omega
    · rw [hadd]
      exact (he.mono st').put o.dst hv'

theorem calm_region (hm : P.follows .mixedOrders = true) (hp : ProgOk P) (hcall : CallOk P call) (hok : calmReg ops = true) {e e' : List Value} {H' : AH} (h : evOps P call ops ops.toList e H = some (e', H')) :
    ∀ id φ w (a : Act) (Q : Exit → Act → World → Prop), Sim P φ H w → EnvR P φ H w e a.tmps → EndOk P φ H w e' H' a.defers (Q .normal) → (Code.region id ops true).wp P Q a w := by
  intro id φ w a Q hs he hk
  unfold calmReg at hok
  rw [Bool.and_eq_true, Bool.and_eq_true] at hok
  obtain ⟨⟨htm, hbk⟩, hall⟩ := hok
  have hcalm : ∀ o, o ∈ ops → calmB o.op = true ∧ o.guard = none := fun o ho => by
    have := List.all_eq_true.1 hall o (by simpa using ho)
    rw [Bool.and_eq_true] at this
    exact ⟨this.1, by simpa using this.2⟩
  obtain ⟨W, E, K, h1, h2, h3, h4, h5⟩ := trace _ _ _ _ _ h
  have hg : ∀ (o : Oper) (x : List Value), o.guard = none → guardA ops o x = some true := fun o x hx => by unfold guardA; rw [hx]
  have step : ∀ i o, ops[i]? = some o → evOp P call o (rho (E i)) (K i) = some (W i, K (i + 1)) ∧ E (i + 1) = putE (E i) o.dst (W i) := fun i o ho => by
    obtain ⟨hst, hE⟩ := h5 i o (by rw [Array.getElem?_toList]; exact ho)
    refine ⟨?_, hE⟩
    rcases hst with ⟨_, hst⟩ | ⟨hst, _⟩
    · exact hst
    · rw [hg o _ (hcalm o (Array.mem_of_getElem? ho)).2] at hst; cases hst
  have hK : ∀ i, i ≤ ops.size → K i = H := by
    intro i hi
    induction i with
    | zero => exact h2
    | succ i ih =>
      have ho : ops[i]? = some ops[i] := Array.getElem?_eq_getElem (by omega)
      have := evOp_calm (hcalm _ (Array.mem_of_getElem? ho)).1 (step i _ ho).1
      rw [this, ih (by omega)]
  have hE : ∀ i, i ≤ ops.size → E i = envOf ops W (fun _ => true) e i := fun i hi => trace_env h1 (fun i o ho => (step i o ho).2) hi
  have hlen : ops.toList.length = ops.size := by simp
  rw [hlen] at h3 h4
  have hH : H' = H := by rw [← h4, hK _ (Nat.le_refl _)]
  subst hH
  have hB : RowKit.Below w.heap.size w { w with drawn := w.drawn + 1 } := (RowKit.Below.refl _ w).drew
  have hs1 := sim_below hs hB
  have st1 := step_below hs hB
  refine wp_region_any hm (calm_any hp hcall htm hbk hcalm (E := E) (W := W) (e0 := e) (φ0 := φ) (w0 := w) (df := a.defers) (fun i o ho => ⟨?_, hE i (by have := (Array.getElem?_eq_some_iff.1 ho).1; omega)⟩) hs (fun φ' w' a' st hs' he' hd => ?_) ops.size _ a _ φ (by simp) ?_ ?_ st1 hs1 ?_ rfl)
  · have hil := (Array.getElem?_eq_some_iff.1 ho).1
    have := (step i o ho).1
    rwa [hK i (by omega), hK (i + 1) (by omega)] at this
  · rw [← hE _ (Nat.le_refl _), h3] at he'
    exact hk φ' w' a' st hs' he' hd
  · exact Nat.le_trans (List.length_filter_le _ _) (by simp)
  · intro j o _ hj
    rw [Array.getD_eq_getD_getElem?, Array.getElem?_replicate] at hj
    split at hj <;> cases hj
  · have : ∀ n, envOf ops W (fun k => (Array.replicate ops.size false).getD k false) e n = e := by
      intro n
      induction n with
      | zero => rfl
      | succ n ih =>
        have hf : (Array.replicate ops.size false).getD n false = false := by
          rw [Array.getD_eq_getD_getElem?, Array.getElem?_replicate]; split <;> rfl
        simp only [envOf, hf, Bool.false_eq_true, if_false]
        exact ih
    rw [this]
    exact he.mono st1

theorem one_any (hp : ProgOk P) (hcall : CallOk P call) (htm : tempsB ops = true) (hbk : backB ops = true) (hcalm : ∀ o, o ∈ ops → (∀ cs b, o.op ≠ .select cs b) ∧ o.guard = none) {E : Nat → List Value} {Hs : Bool → AH} {k0 : Nat} (hk0 : k0 < ops.size) (hH0 : Hs false = H)
    (hE : ∀ i o, ops[i]? = some o → ((∀ b, i ≠ k0 → evOp P call o (rho (E i)) (Hs b) = some (W i, Hs b)) ∧ (i = k0 → evOp P call o (rho (E i)) (Hs false) = some (W i, Hs true))) ∧ E i = envOf ops W (fun _ => true) e0 i) {φ0 : Phi} {w0 : World} {df : List Deferred} {Q : Exit → Act → World → Prop} (hs0 : Sim P φ0 H w0)
    (hk : ∀ φ w a, Step P φ0 H w0 φ (Hs true) w → Sim P φ (Hs true) w → EnvR P φ (Hs true) w (envOf ops W (fun _ => true) e0 ops.size) a.tmps → a.defers = df → Q .normal a w) :
    ∀ (fuel : Nat) (listed : Array Bool) (a : Act) (w : World) (φ : Phi), listed.size = ops.size → ((List.range ops.size).filter fun k => !listed.getD k false).length ≤ fuel →
      (∀ j o, ops[j]? = some o → listed.getD j false = true → ∀ e, e ∈ o.after.toList → Region.binds .any e = true → listed.getD e.on false = true) →
      Step P φ0 H w0 φ (Hs (listed.getD k0 false)) w → Sim P φ (Hs (listed.getD k0 false)) w → EnvR P φ (Hs (listed.getD k0 false)) w (envOf ops W (fun k => listed.getD k false) e0 ops.size) a.tmps → a.defers = df → wpAny P .any ops Q fuel listed a w := by
  have fin : ∀ (listed : Array Bool) (a : Act) (w : World) (φ : Phi), listed.size = ops.size → Region.ready .any ops listed = [] → Step P φ0 H w0 φ (Hs (listed.getD k0 false)) w → Sim P φ (Hs (listed.getD k0 false)) w → EnvR P φ (Hs (listed.getD k0 false)) w (envOf ops W (fun k => listed.getD k false) e0 ops.size) a.tmps → a.defers = df → Q .normal a w := by
    intro listed a w φ hl hr st hs he hd
    have hall := ready_nil hbk hl hr
    rw [hall k0 hk0] at st hs he
    refine hk φ w a st hs ?_ hd
    have : envOf ops W (fun k => listed.getD k false) e0 ops.size = envOf ops W (fun _ => true) e0 ops.size := by
      have go : ∀ n, n ≤ ops.size → envOf ops W (fun k => listed.getD k false) e0 n = envOf ops W (fun _ => true) e0 n := by
        intro n hn
        induction n with
        | zero => rfl
        | succ n ih => simp only [envOf, hall n (by omega), if_true]; rw [ih (by omega)]
      exact go _ (Nat.le_refl _)
    rwa [this] at he
  intro fuel
  induction fuel with
  | zero =>
    intro listed a w φ hl hc hS st hs he hd
    have hr : Region.ready .any ops listed = [] := by
      cases hr : Region.ready .any ops listed with
      | nil => rfl
      | cons i r =>
        have hm := ready_spec (show i ∈ Region.ready .any ops listed by rw [hr]; simp)
        have : i ∈ (List.range ops.size).filter fun k => !listed.getD k false := by
          rw [List.mem_filter, List.mem_range]
          refine ⟨hm.1, ?_⟩
          have h0 := hm.2.1
          rw [Array.getD_eq_getD_getElem?, Array.getElem?_eq_getElem (by omega)] at h0 ⊢
          simpa using h0
        have hnil := List.length_eq_zero_iff.1 (Nat.le_zero.1 hc)
        rw [hnil] at this
        cases this
    exact ⟨hr, fin listed a w φ hl hr st hs he hd⟩
  | succ fuel ih =>
    intro listed a w φ hl hc hS st hs he hd
    refine ⟨fun hr => fin listed a w φ hl hr st hs he hd, fun i hi => ?_⟩
    obtain ⟨hil, hno, o, ho, hpre⟩ := ready_spec hi
    have hno' : listed.getD i false = false := by
      rw [Array.getD_eq_getD_getElem?, Array.getElem?_eq_getElem (by omega)] at hno ⊢
      exact hno
    have hmem : o ∈ ops := Array.mem_of_getElem? ho
    obtain ⟨hca, hgu⟩ := hcalm o hmem
    have hsel := hca
    have hcl := closed_set hl hil hS ho hpre
    have hfun : (fun k => (listed.setIfInBounds i true).getD k false) = fun k => listed.getD k false || Nat.beq k i := by
      funext k
      rw [Array.getD_eq_getD_getElem?, Array.getElem?_setIfInBounds]
      by_cases hik : i = k
      · subst hik
        rw [if_pos rfl, if_pos (by omega), Nat.beq_refl]
        simp
      · have hb : Nat.beq k i = false := Bool.eq_false_iff.2 fun h => hik (Nat.eq_of_beq_eq_true h).symm
        rw [if_neg hik, hb, Bool.or_false, ← Array.getD_eq_getD_getElem?]
    have hii : (listed.setIfInBounds i true).getD i false = true := by
      have h4 := congrFun hfun i
      rw [h4, Nat.beq_refl]
      simp
    have hop : evOp P call o (rho (envOf ops W (fun k => listed.getD k false) e0 ops.size)) (Hs (listed.getD k0 false)) = some (W i, Hs ((listed.setIfInBounds i true).getD k0 false)) := by
      have h1 := hE i o ho
      have hh : evOp P call o (rho (E i)) (Hs (listed.getD k0 false)) = some (W i, Hs ((listed.setIfInBounds i true).getD k0 false)) := by
        have h4 := congrFun hfun k0
        rw [h4]
        by_cases hik : i = k0
        · subst hik
          rw [hno', Nat.beq_refl, Bool.false_or]
          exact h1.1.2 rfl
        · have hb2 : Nat.beq k0 i = false := Bool.eq_false_iff.2 fun h => hik (Nat.eq_of_beq_eq_true h).symm
          rw [hb2, Bool.or_false]
          exact h1.1.1 _ hik
      rw [h1.2, ← envOf_lt i ops.size (by omega)] at hh
      rw [← hh]
      refine evOp_names hsel fun t ht => env_agrees htm hS ho hno' (fun k hki hb => ?_) ht
      have h2 := before_closed (fun k => (listed.setIfInBounds i true).getD k false) hcl i k hb hii
      have h4 := congrFun hfun k
      rw [h4] at h2
      have hb2 : Nat.beq k i = false := Bool.eq_false_iff.2 fun h => by have := Nat.eq_of_beq_eq_true h; omega
      simpa [hb2] using h2
    have hadd : envOf ops W (fun k => (listed.setIfInBounds i true).getD k false) e0 ops.size = putE (envOf ops W (fun k => listed.getD k false) e0 ops.size) o.dst (W i) := by
      have hd2 : dstOf ops i = o.dst := by unfold dstOf; rw [ho]; rfl
      rw [hfun, ← hd2]
      refine envOf_add i hno' ops.size hil fun k hik hkn hsk => ?_
      cases hdi : dstOf ops i with
      | none => exact .inl rfl
      | some t =>
        refine .inr fun heq => ?_
        have hko : ops[k]? = some ops[k] := Array.getElem?_eq_getElem hkn
        have hdk : ops[k].dst = some t := by have : dstOf ops k = ops[k].dst := by unfold dstOf; rw [hko]; rfl
                                             rw [← this, ← heq]
        have hb := temps_spec htm hko hdi (show t ∈ namesOf ops[k] by unfold namesOf; rw [hdk]; simp) (by omega)
        rw [Nat.max_eq_right (by omega), Nat.min_eq_left (by omega)] at hb
        have h3 := before_closed (fun k => listed.getD k false) hS k i hb hsk
        rw [hno'] at h3
        cases h3
    unfold wpOp
    rw [ho]
    have hw : Region.wanted o (yielded ops a.tmps) = true := by unfold Region.wanted; rw [hgu]
    simp only [hw, if_true]
    refine .inl (evOp_sound hp hcall hs (fun x => he.rho x) hop _ Q fun v' w' ⟨φ', st', hs', hv'⟩ => ?_)
    refine ih _ _ _ φ' (by simpa using hl) ?_ hcl (st.trans hs0 st') hs' ?_ (by rw [put_defers', hd])
    · have hlt : ((List.range ops.size).filter fun k => !(listed.setIfInBounds i true).getD k false).length < ((List.range ops.size).filter fun k => !listed.getD k false).length := by
        refine filter_lt _ _ (fun x hx => ?_) _ i (List.mem_range.2 hil) (by simp [hno']) (by simp [hii])
        have h4 := congrFun hfun x
        rw [h4] at hx
        simp at hx
        simp [hx.1]
      omega
    · rw [hadd]
      exact (he.mono st').put o.dst hv'

theorem eqA_flat {t : TypeId} {x y : Value} (h : (match P.underlying t with | some (.int _) | some .string | some .bool => true | _ => false) = true) (H2 : AH) : eqA P H2 t x y = none := by
  unfold eqA
  split at h <;> rename_i hu <;> first | (cases h; done) | (rw [hu]; done) | (rw [hu]; split <;> simp_all)

theorem evOp_free {ρ : Operand → Value} (h : freeB P o.op = true) : ∃ r : Option Value, ∀ H2 : AH, evOp P call o ρ H2 = r.map (·, H2) := by
  cases ho : o.op <;> rw [ho] at h <;> simp only [freeB] at h <;> try (cases h; done)
  case move x => exact ⟨some (ρ x), fun H2 => by unfold evOp; simp only [ho, Option.map_some]⟩
  case assign x => exact ⟨some (ρ x), fun H2 => by unfold evOp; simp only [ho, Option.map_some]⟩
  case pick c a b =>
    refine ⟨match ρ c with | .bool true => some (ρ a) | .bool false => some (ρ b) | _ => none, fun H2 => ?_⟩
    unfold evOp; simp only [ho]
    split <;> simp_all
  case extract t ix =>
    refine ⟨match ρ t with | .tuple vs => vs[ix]? | _ => none, fun H2 => ?_⟩
    unfold evOp; simp only [ho]
    split <;> simp_all
  case build t parts => exact ⟨buildA P t (parts.toList.map fun p => (p.1, ρ p.2)), fun H2 => by unfold evOp; simp only [ho]⟩
  case nilCheck x =>
    refine ⟨match ρ x with | .pointer (some a) => some (.pointer (some a)) | .func (.func f) a b => some (.func (.func f) a b) | _ => none, fun H2 => ?_⟩
    unfold evOp; simp only [ho]
    split <;> simp_all
  case fieldAddr s x f => exact ⟨fieldAddrA P s (ρ x) f, fun H2 => by unfold evOp; simp only [ho]⟩
  case indexAddr t x i => exact ⟨indexAddrA P t (ρ x) (ρ i), fun H2 => by unfold evOp; simp only [ho]⟩
  case unOp => exact ⟨flatOp P o ρ, fun H2 => by unfold evOp; simp only [ho]⟩
  case index => exact ⟨flatOp P o ρ, fun H2 => by unfold evOp; simp only [ho]⟩
  case field => exact ⟨flatOp P o ρ, fun H2 => by unfold evOp; simp only [ho]⟩
  case typeAssert => exact ⟨flatOp P o ρ, fun H2 => by unfold evOp; simp only [ho]⟩
  case binOp op t x y t' =>
    refine ⟨flatOp P o ρ, fun H2 => ?_⟩
    unfold evOp; simp only [ho]
    cases op <;> first | (simp only at h; rw [eqA_flat h H2]; done) | rfl | (cases eqA P H2 t (ρ x) (ρ y) <;> rfl)
  case slice t x lo hi mx =>
    refine ⟨flatOp P o ρ, fun H2 => ?_⟩
    unfold evOp; simp only [ho]
    split
    · rename_i hu; rw [hu] at h; cases h
    · rfl
  case convert src dst x =>
    refine ⟨flatOp P o ρ, fun H2 => ?_⟩
    unfold evOp; simp only [ho]
    have hc : convertA P H2 src dst (ρ x) = none := by
      split at h
      · rename_i k hu
        unfold convertA
        rw [hu]
      · cases h
    rw [hc]
  case call c =>
    split at h
    · rename_i hc
      refine ⟨match c.args.toList.map ρ, (c.argTypes[0]?).bind P.underlying with
        | [.slice _ n _], some (.slice _) => some (.int .i64 n)
        | _, _ => flatOp P o ρ, fun H2 => ?_⟩
      unfold evOp; simp only [ho, callA, hc]
      generalize c.args.toList.map ρ = l
      generalize (c.argTypes[0]?).bind P.underlying = d at h
      rcases d with _ | dd
      · rcases l with _ | ⟨v, _ | ⟨u, l⟩⟩ <;> first | rfl | (cases v <;> rfl)
      · cases dd <;> first | (cases h; done) | (rcases l with _ | ⟨v, _ | ⟨u, l⟩⟩ <;> first | rfl | (cases v <;> rfl))
    · rename_i hc
      exact ⟨flatOp P o ρ, fun H2 => by unfold evOp; simp only [ho, callA, hc]⟩
    · rename_i hc
      exact ⟨flatOp P o ρ, fun H2 => by unfold evOp; simp only [ho, callA, hc]⟩
    · cases h

theorem one_region (hm : P.follows .mixedOrders = true) (hp : ProgOk P) (hcall : CallOk P call) (hok : oneReg P ops = true) {e e' : List Value} {H' : AH} (h : evOps P call ops ops.toList e H = some (e', H')) (hne : 0 < ops.size) :
    ∀ id φ w (a : Act) (Q : Exit → Act → World → Prop), Sim P φ H w → EnvR P φ H w e a.tmps → EndOk P φ H w e' H' a.defers (Q .normal) → (Code.region id ops true).wp P Q a w := by
  intro id φ w a Q hs he hk
  unfold oneReg at hok
  rw [Bool.and_eq_true, Bool.and_eq_true, Bool.and_eq_true] at hok
  obtain ⟨⟨⟨htm, hbk⟩, hall⟩, hcnt⟩ := hok
  have hcnt : ((List.range ops.size).filter fun i => match ops[i]? with | some o => !freeB P o.op | none => false).length ≤ 1 := Nat.le_of_ble_eq_true hcnt
  have hcalm : ∀ o, o ∈ ops → (∀ cs b, o.op ≠ .select cs b) ∧ o.guard = none := fun o ho => by
    have := List.all_eq_true.1 hall o (by simpa using ho)
    rw [Bool.and_eq_true] at this
    exact ⟨fun cs b e => by rw [e] at this; simp [selB] at this, by simpa using this.1⟩
  -- which operation minds the heap
  obtain ⟨k0, hk0, hfree⟩ : ∃ k0, k0 < ops.size ∧ ∀ i o, ops[i]? = some o → i ≠ k0 → freeB P o.op = true := by
    cases hf : (List.range ops.size).filter fun i => match ops[i]? with | some o => !freeB P o.op | none => false with
    | nil =>
      refine ⟨0, hne, fun i o ho _ => ?_⟩
      cases hb : freeB P o.op with
      | true => rfl
      | false =>
        have : i ∈ (List.range ops.size).filter fun i => match ops[i]? with | some o => !freeB P o.op | none => false := by
          rw [List.mem_filter, List.mem_range]
          exact ⟨(Array.getElem?_eq_some_iff.1 ho).1, by rw [ho]; simp [hb]⟩
        rw [hf] at this; cases this
    | cons k r =>
      have hk : k ∈ (List.range ops.size).filter fun i => match ops[i]? with | some o => !freeB P o.op | none => false := by rw [hf]; simp
      rw [List.mem_filter, List.mem_range] at hk
      refine ⟨k, hk.1, fun i o ho hik => ?_⟩
      cases hb : freeB P o.op with
      | true => rfl
      | false =>
        have : i ∈ (List.range ops.size).filter fun i => match ops[i]? with | some o => !freeB P o.op | none => false := by
          rw [List.mem_filter, List.mem_range]
          exact ⟨(Array.getElem?_eq_some_iff.1 ho).1, by rw [ho]; simp [hb]⟩
        rw [hf] at this
        rw [hf] at hcnt
        simp only [List.length_cons] at hcnt
        have hr : r = [] := List.length_eq_zero_iff.1 (by omega)
        subst hr
        simp only [List.mem_singleton] at this
        exact absurd this hik
  obtain ⟨W, E, K, h1, h2, h3, h4, h5⟩ := trace _ _ _ _ _ h
  have hg : ∀ (o : Oper) (x : List Value), o.guard = none → guardA ops o x = some true := fun o x hx => by unfold guardA; rw [hx]
  have step : ∀ i o, ops[i]? = some o → evOp P call o (rho (E i)) (K i) = some (W i, K (i + 1)) ∧ E (i + 1) = putE (E i) o.dst (W i) := fun i o ho => by
    obtain ⟨hst, hE⟩ := h5 i o (by rw [Array.getElem?_toList]; exact ho)
    refine ⟨?_, hE⟩
    rcases hst with ⟨_, hst⟩ | ⟨hst, _⟩
    · exact hst
    · rw [hg o _ (hcalm o (Array.mem_of_getElem? ho)).2] at hst; cases hst
  have free : ∀ i o, ops[i]? = some o → i ≠ k0 → K (i + 1) = K i ∧ ∀ H2, evOp P call o (rho (E i)) H2 = some (W i, H2) := fun i o ho hik => by
    obtain ⟨r, hr⟩ := evOp_free (call := call) (ρ := rho (E i)) (hfree i o ho hik)
    have h6 := (step i o ho).1
    rw [hr] at h6
    cases r with
    | none => cases h6
    | some v =>
      simp only [Option.map_some, Option.some.injEq, Prod.mk.injEq] at h6
      refine ⟨h6.2.symm, fun H2 => ?_⟩
      rw [hr, ← h6.1]; rfl
  have hlen : ops.toList.length = ops.size := by simp
  rw [hlen] at h3 h4
  have hK0 : ∀ i, i ≤ k0 → K i = H := by
    intro i hi
    induction i with
    | zero => exact h2
    | succ i ih =>
      have ho : ops[i]? = some ops[i] := Array.getElem?_eq_getElem (by omega)
      rw [(free i _ ho (by omega)).1, ih (by omega)]
  have hK1 : ∀ i, k0 < i → i ≤ ops.size → K i = H' := by
    have key : ∀ d, d + (k0 + 1) ≤ ops.size → K (d + (k0 + 1)) = K (k0 + 1) := by
      intro d
      induction d with
      | zero => intro _; rw [Nat.zero_add]
      | succ d ih =>
        intro hd
        have ho : ops[d + (k0 + 1)]? = some (ops[d + (k0 + 1)]'(by omega)) := Array.getElem?_eq_getElem (by omega)
        rw [show d + 1 + (k0 + 1) = d + (k0 + 1) + 1 by omega, (free _ _ ho (by omega)).1, ih (by omega)]
    intro i hi hil
    have e1 := key (i - (k0 + 1)) (by omega)
    have e2 := key (ops.size - (k0 + 1)) (by omega)
    rw [show i - (k0 + 1) + (k0 + 1) = i by omega] at e1
    rw [show ops.size - (k0 + 1) + (k0 + 1) = ops.size by omega] at e2
    rw [e1, ← e2, h4]
  have hE : ∀ i, i ≤ ops.size → E i = envOf ops W (fun _ => true) e i := fun i hi => trace_env h1 (fun i o ho => (step i o ho).2) hi
  have hB : RowKit.Below w.heap.size w { w with drawn := w.drawn + 1 } := (RowKit.Below.refl _ w).drew
  have hs1 := sim_below hs hB
  have st1 := step_below hs hB
  have hf0 : (Array.replicate ops.size false).getD k0 false = false := by
    rw [Array.getD_eq_getD_getElem?, Array.getElem?_replicate]; split <;> rfl
  refine wp_region_any hm (one_any hp hcall htm hbk hcalm (E := E) (W := W) (e0 := e) (φ0 := φ) (w0 := w) (df := a.defers) (Hs := fun b => bif b then H' else H) (k0 := k0) hk0 rfl (fun i o ho => ⟨⟨fun b hik => (free i o ho hik).2 _, fun hik => ?_⟩, hE i (by have := (Array.getElem?_eq_some_iff.1 ho).1; omega)⟩) hs (fun φ' w' a' st hs' he' hd => ?_) ops.size _ a _ φ (by simp) ?_ ?_ ?_ ?_ ?_ rfl)
  · subst hik
    have := (step i o ho).1
    rw [hK0 i (Nat.le_refl _), hK1 (i + 1) (by omega) (by omega)] at this
    exact this
  · rw [← hE _ (Nat.le_refl _), h3] at he'
    exact hk φ' w' a' st hs' he' hd
  · exact Nat.le_trans (List.length_filter_le _ _) (by simp)
  · intro j o _ hj
    rw [Array.getD_eq_getD_getElem?, Array.getElem?_replicate] at hj
    split at hj <;> cases hj
  · rw [hf0]; exact st1
  · rw [hf0]; exact hs1
  · have : ∀ n, envOf ops W (fun k => (Array.replicate ops.size false).getD k false) e n = e := by
      intro n
      induction n with
      | zero => rfl
      | succ n ih =>
        have hf : (Array.replicate ops.size false).getD n false = false := by
          rw [Array.getD_eq_getD_getElem?, Array.getElem?_replicate]; split <;> rfl
        simp only [envOf, hf, Bool.false_eq_true, if_false]
        exact ih
    rw [this, hf0]
    exact he.mono st1

end
end Go.Proofs.YtaadahhjdkkkaaaGreatDoor.Ev
