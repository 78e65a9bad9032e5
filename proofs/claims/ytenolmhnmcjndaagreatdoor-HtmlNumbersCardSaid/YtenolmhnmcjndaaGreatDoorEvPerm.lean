/-
  Regions that draw their order: an operation looks at its operands alone.
  Regions that draw their order, with several operations that mind the heap: these stand in a chain; what only looks at the heap looks at what no operation of the region touches.
  Regions that draw their order, in which one new variable may be made ahead of its place in the text: nobody looks at it before.
  Regions that draw their order, in general: what minds the heap stands in a chain; all else is done as soon as it can be; new blocks that nobody looks at may come later than they do here, looks may stand wherever nothing is written.
-/
import Derived.Test.YtenolmhnmcjndaaGreatDoorEvStep
import Derived.Test.YtenolmhnmcjndaaGreatDoorEvGrown
namespace Go.Proofs.YtenolmhnmcjndaaGreatDoor.Ev
set_option linter.unusedVariables false
set_option linter.unusedSimpArgs false
open Go
section
variable {P : Program} {call : CallA} {o : Oper} {ρ ρ' : Operand → Value} {H : AH}

theorem all_congr' {α : Type} {p q : α → Bool} : ∀ {l : List α}, (∀ x ∈ l, p x = q x) → l.all p = l.all q
  | [], _ => rfl
  | a :: l, h => by simp only [List.all_cons]; rw [h a (by simp), all_congr' fun x hx => h x (by simp [hx])]

theorem flatOp_congr (hs : ∀ cs b, o.op ≠ .select cs b) (h : ∀ x ∈ o.op.operands, ρ x = ρ' x) : flatOp P o ρ = flatOp P o ρ' := by
  have hall : o.op.operands.toList.all (fun x => flatB (ρ x)) = o.op.operands.toList.all (fun x => flatB (ρ' x)) := by
    refine all_congr' fun x hx => ?_
    rw [h x (by simpa using hx)]
  unfold flatOp
  rw [hall, execOp_congr o hs h]

theorem map_congr_ops {l : Array Operand} (h : ∀ x ∈ l, ρ x = ρ' x) : l.toList.map ρ = l.toList.map ρ' := List.map_congr_left fun x hx => h x (by simpa using hx)

theorem evOp_congr (hs : ∀ cs b, o.op ≠ .select cs b) (h : ∀ x ∈ o.op.operands, ρ x = ρ' x) : evOp P call o ρ H = evOp P call o ρ' H := by
  have hf := flatOp_congr (P := P) hs h
  have pairs : ∀ ps : Array (Nat × Operand), (∀ x ∈ (ps.toList.map (·.2)).toArray, ρ x = ρ' x) → ps.toList.map (fun p => (p.1, ρ p.2)) = ps.toList.map fun p => (p.1, ρ' p.2) := fun ps hp =>
    List.map_congr_left fun p hm => by rw [hp p.2 (by simp; exact ⟨p.1, by simpa using hm⟩)]
  have opt : ∀ (m : Option Operand), (∀ x ∈ m.toArray, ρ x = ρ' x) → m.map ρ = m.map ρ' := fun m hm => by
    cases m with
    | none => rfl
    | some x => simp [hm x (by simp)]
  obtain ⟨dst, op, type, pos, after, guard⟩ := o
  cases op with
  | move x => simp only [evOp]; rw [h x (by simp [Op.operands])]
  | assign x => simp only [evOp]; rw [h x (by simp [Op.operands])]
  | pick c a b => simp only [evOp]; rw [h c (by simp [Op.operands]), h a (by simp [Op.operands]), h b (by simp [Op.operands])]
  | extract t ix => simp only [evOp]; rw [h t (by simp [Op.operands])]
  | build t ps => simp only [evOp]; rw [pairs ps (by simpa [Op.operands] using h)]
  | buildSlice t n ps => simp only [evOp]; rw [pairs ps (by simpa [Op.operands] using h)]
  | nilCheck x => simp only [evOp]; rw [h x (by simp [Op.operands])]
  | fieldAddr s x f => simp only [evOp]; rw [h x (by simp [Op.operands])]
  | indexAddr t x i => simp only [evOp]; rw [h x (by simp [Op.operands]), h i (by simp [Op.operands])]
  | load t a => simp only [evOp]; rw [h a (by simp [Op.operands])]
  | store t a x => simp only [evOp]; rw [h a (by simp [Op.operands]), h x (by simp [Op.operands])]
  | alloc e => rfl
  | box e x => simp only [evOp]; rw [h x (by simp [Op.operands])]
  | makeSlice t l c => simp only [evOp]; rw [h l (by simp [Op.operands]), h c (by simp [Op.operands])]
  | makeInterface t x => simp only [evOp]; rw [h x (by simp [Op.operands])]
  | range t x => simp only [evOp]; rw [h x (by simp [Op.operands])]
  | next it b => cases b <;> simp only [evOp]; rw [h it (by simp [Op.operands])]
  | binOp op t x y t' => simp only [evOp, hf]; rw [h x (by simp [Op.operands]), h y (by simp [Op.operands])]
  | convert s d x => simp only [evOp, hf]; rw [h x (by simp [Op.operands])]
  | slice t x lo hi mx =>
    simp only [evOp, hf]
    rw [h x (by simp [Op.operands]), opt lo fun y hy => h y (by simp [Op.operands] at hy ⊢; simp [hy]), opt hi fun y hy => h y (by simp [Op.operands] at hy ⊢; simp [hy]), opt mx fun y hy => h y (by simp [Op.operands] at hy ⊢; simp [hy])]
  | makeFunc fn first cap =>
    simp only [evOp]
    have hc : cap.map ρ = cap.map ρ' := Array.map_congr_left fun x hx => h x (by simp [Op.operands, hx])
    have hb : cap.toList.all (fun x => capB (ρ x)) = cap.toList.all (fun x => capB (ρ' x)) := all_congr' fun x hx => by rw [h x (by simp [Op.operands]; right; simpa using hx)]
    simp only [hc, hb]
  | call c =>
    simp only [evOp]
    unfold callA
    have ha : c.args.toList.map ρ = c.args.toList.map ρ' := map_congr_ops fun x hx => h x (by simp [Op.operands, Call.operands, hx])
    cases hcal : c.callee with
    | value x =>
      simp only [ha]
      rw [h x (by simp [Op.operands, Call.operands, hcal])]
    | builtin b => cases b <;> simp only [ha, hf]
    | invoke r n => simp only [hf]
  | unOp op t x => simp only [evOp, hf]
  | index t x i => simp only [evOp, hf]
  | field t x f => simp only [evOp, hf]
  | typeAssert x t a b => simp only [evOp, hf]
  | makeMap t r => cases r <;> rfl
  | lookup t m k ok => simp only [evOp]; rw [h m (by simp [Op.operands]), h k (by simp [Op.operands])]
  | mapUpdate t m k x => simp only [evOp]; rw [h m (by simp [Op.operands]), h k (by simp [Op.operands]), h x (by simp [Op.operands])]
  | _ => rfl

/-! ### What lies in the temporaries behind a set of operations -/
variable {ops : Array Oper} {W : Nat → Value} {S S' : Nat → Bool} {e0 : List Value}

def envOf (ops : Array Oper) (W : Nat → Value) (S : Nat → Bool) (e0 : List Value) : Nat → List Value
  | 0 => e0
  | k + 1 => if S k then putE (envOf ops W S e0 k) (dstOf ops k) (W k) else envOf ops W S e0 k

theorem putE_length {e : List Value} {d : Option Tmp} {v : Value} : (putE e d v).length = e.length := by cases d <;> simp [putE]
theorem envOf_length : ∀ n, (envOf ops W S e0 n).length = e0.length
  | 0 => rfl
  | n + 1 => by simp only [envOf]; split <;> simp [putE_length, envOf_length n]

theorem putE_get_ne {e : List Value} {d : Option Tmp} {v : Value} {t : Tmp} (h : d ≠ some t) : (putE e d v)[t]? = e[t]? := by
  cases d with
  | none => rfl
  | some d =>
    have : d ≠ t := fun e => h (congrArg some e)
    simp [putE, List.getElem?_set, this]
theorem putE_get_eq {e e' : List Value} {v : Value} {t : Tmp} (h : e.length = e'.length) : (putE e (some t) v)[t]? = (putE e' (some t) v)[t]? := by
  simp [putE, List.getElem?_set, h]

/-- A temporary looks at who writes it alone. -/
theorem envOf_at (t : Tmp) : ∀ n, (∀ k, k < n → dstOf ops k = some t → S k = S' k) → (envOf ops W S e0 n)[t]? = (envOf ops W S' e0 n)[t]?
  | 0, _ => rfl
  | n + 1, h => by
    have ih := envOf_at t n fun k hk => h k (by omega)
    simp only [envOf]
    by_cases hd : dstOf ops n = some t
    · rw [h n (by omega) hd]
      split
      · rw [hd]; exact putE_get_eq (by rw [envOf_length, envOf_length])
      · exact ih
    · split <;> split <;> simp only [putE_get_ne hd, ih]

theorem putE_comm {e : List Value} {d d' : Option Tmp} {v v' : Value} (h : d = none ∨ d ≠ d') : putE (putE e d v) d' v' = putE (putE e d' v') d v := by
  cases d with
  | none => rfl
  | some a =>
    cases d' with
    | none => rfl
    | some b =>
      have : a ≠ b := fun e => by rcases h with h | h; cases h; exact h (congrArg some e)
      simp only [putE]
      exact List.set_comm _ _ this

/-- One more operation, of which no later one that was done writes the same. -/
theorem envOf_add (j : Nat) (hj : S j = false) : ∀ n, j < n → (∀ k, j < k → k < n → S k = true → dstOf ops j = none ∨ dstOf ops j ≠ dstOf ops k) →
    envOf ops W (fun k => S k || Nat.beq k j) e0 n = putE (envOf ops W S e0 n) (dstOf ops j) (W j)
  | 0, h, _ => absurd h (by omega)
  | n + 1, h, hk => by
    by_cases hn : n = j
    · subst hn
      have h0 : ∀ m, m ≤ n → envOf ops W (fun k => S k || Nat.beq k n) e0 m = envOf ops W S e0 m := by
        intro m hm
        induction m with
        | zero => rfl
        | succ m ih =>
          have hb : Nat.beq m n = false := Bool.eq_false_iff.2 fun h => by have := Nat.eq_of_beq_eq_true h; omega
          simp only [envOf, hb, Bool.or_false]
          rw [ih (by omega)]
      have hb : Nat.beq n n = true := Nat.beq_refl n
      simp only [envOf, hb, Bool.or_true, if_true, hj, Bool.false_eq_true, if_false]
      rw [h0 n (Nat.le_refl _)]
    · have ih := envOf_add j hj n (by omega) fun k h1 h2 => hk k h1 (by omega)
      have hb : Nat.beq n j = false := Bool.eq_false_iff.2 fun h => hn (Nat.eq_of_beq_eq_true h)
      simp only [envOf, hb, Bool.or_false]
      split
      · rename_i hs
        rw [ih]
        exact putE_comm (hk n (by omega) (by omega) hs)
      · exact ih


/-! ### The states ahead of each operation -/
/-- One operation, in the text's order. -/
def Stp (P : Program) (call : CallA) (ops : Array Oper) (o : Oper) (e : List Value) (H : AH) (v : Value) (H' : AH) : Prop :=
  (guardA ops o e = some true ∧ evOp P call o (rho e) H = some (v, H')) ∨ (guardA ops o e = some false ∧ v = undef ∧ H' = H)

theorem trace : ∀ (l : List Oper) (e : List Value) (H : AH) (e' : List Value) (H' : AH), evOps P call ops l e H = some (e', H') →
    ∃ (W : Nat → Value) (E : Nat → List Value) (K : Nat → AH), E 0 = e ∧ K 0 = H ∧ E l.length = e' ∧ K l.length = H' ∧
      ∀ i o, l[i]? = some o → Stp P call ops o (E i) (K i) (W i) (K (i + 1)) ∧ E (i + 1) = putE (E i) o.dst (W i)
  | [], e, H, e', H', h => by
    simp only [evOps] at h; cases h
    exact ⟨fun _ => undef, fun _ => e, fun _ => H, rfl, rfl, rfl, rfl, fun i o h => by simp at h⟩
  | o :: r, e, H, e', H', h => by
    have key : ∀ v H1, Stp P call ops o e H v H1 → evOps P call ops r (putE e o.dst v) H1 = some (e', H') →
        ∃ (W : Nat → Value) (E : Nat → List Value) (K : Nat → AH), E 0 = e ∧ K 0 = H ∧ E (o :: r).length = e' ∧ K (o :: r).length = H' ∧
          ∀ i x, (o :: r)[i]? = some x → Stp P call ops x (E i) (K i) (W i) (K (i + 1)) ∧ E (i + 1) = putE (E i) x.dst (W i) := fun v H1 hs hr => by
      obtain ⟨W, E, K, h1, h2, h3, h4, h5⟩ := trace r _ _ _ _ hr
      refine ⟨fun i => match i with | 0 => v | i + 1 => W i, fun i => match i with | 0 => e | i + 1 => E i, fun i => match i with | 0 => H | i + 1 => K i, rfl, rfl, h3, h4, fun i x hx => ?_⟩
      cases i with
      | zero =>
        simp at hx
        subst hx
        exact ⟨by show Stp P call ops o e H v (K 0); rw [h2]; exact hs, h1⟩
      | succ i => exact h5 i x (by simpa using hx)
    unfold evOps at h
    split at h
    · rename_i hg
      split at h
      case h_2 => cases h
      rename_i v H1 ho
      exact key v H1 (.inl ⟨hg, ho⟩) h
    · rename_i hg
      exact key undef H (.inr ⟨hg, rfl, rfl⟩) h
    · cases h

/-- The text's order, told by sets. -/
theorem trace_env {e0 : List Value} {E : Nat → List Value} {n : Nat} (h0 : E 0 = e0) (h : ∀ i o, ops[i]? = some o → E (i + 1) = putE (E i) o.dst (W i)) (hn : n ≤ ops.size) : E n = envOf ops W (fun _ => true) e0 n := by
  induction n with
  | zero => exact h0
  | succ n ih =>
    have ho : ops[n]? = some ops[n] := Array.getElem?_eq_getElem (by omega)
    rw [h n _ ho, ih (by omega)]
    simp only [envOf, if_true, dstOf, ho, Option.bind_some]


/-! ### What must stand ahead -/
theorem before_closed (S : Nat → Bool) (hS : ∀ j o, ops[j]? = some o → S j = true → ∀ e, e ∈ o.after.toList → Region.binds .any e = true → S e.on = true) :
    ∀ j i, ((Region.before ops).getD j 0).testBit i = true → S j = true → S i = true := by
  have inner : ∀ (acc : Array Nat) (l : List Edge) (s0 : Nat) (i : Nat), (l.foldl (fun s e => if Region.binds .any e then s ||| 2 ^ e.on ||| acc.getD e.on 0 else s) s0).testBit i = true →
      s0.testBit i = true ∨ ∃ e, e ∈ l ∧ Region.binds .any e = true ∧ (e.on = i ∨ (acc.getD e.on 0).testBit i = true) := by
    intro acc l
    induction l with
    | nil => intro s0 i h; exact .inl h
    | cons e l ih =>
      intro s0 i h
      rw [List.foldl_cons] at h
      rcases ih _ i h with h1 | ⟨e2, h1, h2, h3⟩
      · split at h1
        · rename_i hb
          rw [Nat.testBit_or, Nat.testBit_or] at h1
          simp only [Bool.or_eq_true] at h1
          rcases h1 with (h1 | h1) | h1
          · exact .inl h1
          · rw [Nat.testBit_two_pow] at h1
            exact .inr ⟨e, by simp, hb, .inl (by simpa using h1)⟩
          · exact .inr ⟨e, by simp, hb, .inr h1⟩
        · exact .inl h1
      · exact .inr ⟨e2, by simp [h1], h2, h3⟩
  have outer : ∀ (l : List Oper) (k : Nat) (acc : Array Nat), acc.size = k → (∀ m o, l[m]? = some o → ops[k + m]? = some o) → (∀ j i, (acc.getD j 0).testBit i = true → S j = true → S i = true) →
      ∀ j i, ((l.foldl (fun acc o => acc.push (o.after.foldl (fun s e => if Region.binds .any e then s ||| 2 ^ e.on ||| acc.getD e.on 0 else s) 0)) acc).getD j 0).testBit i = true → S j = true → S i = true := by
    intro l
    induction l with
    | nil => intro k acc _ _ h; exact h
    | cons o l ih =>
      intro k acc hk hl h
      rw [List.foldl_cons]
      refine ih (k + 1) _ (by simp [hk]) (fun m x hm => by have := hl (m + 1) x (by simpa using hm); rwa [show k + 1 + m = k + (m + 1) by omega]) ?_
      intro j i hb hs
      rw [Array.getD_eq_getD_getElem?, Array.getElem?_push] at hb
      split at hb
      · rename_i hj
        subst hj
        simp only [Option.getD_some] at hb
        rw [← Array.foldl_toList] at hb
        rcases inner acc _ 0 i hb with h0 | ⟨e, h1, h2, h3⟩
        · simp at h0
        · have hse := hS acc.size o (by have := hl 0 o rfl; rwa [hk]) hs e h1 h2
          rcases h3 with rfl | h3
          · exact hse
          · exact h e.on i h3 hse
      · exact h j i (by rw [Array.getD_eq_getD_getElem?]; exact hb) hs
  intro j i hb hs
  unfold Region.before at hb
  rw [← Array.foldl_toList] at hb
  exact outer ops.toList 0 #[] rfl (fun m o hm => by rw [Nat.zero_add, ← Array.getElem?_toList]; exact hm) (fun j i h => by simp at h) j i hb hs


theorem temps_spec (h : tempsB ops = true) {i j : Nat} {o : Oper} {t : Tmp} (hj : ops[j]? = some o) (hi : dstOf ops i = some t) (ht : t ∈ namesOf o) (hne : i ≠ j) : ((Region.before ops).getD (max i j) 0).testBit (min i j) = true := by
  have hjl : j < ops.size := (Array.getElem?_eq_some_iff.1 hj).1
  have hil : i < ops.size := by
    unfold dstOf at hi
    cases ho : ops[i]? with
    | none => rw [ho] at hi; cases hi
    | some x => exact (Array.getElem?_eq_some_iff.1 ho).1
  have h1 := List.all_eq_true.1 h j (List.mem_range.2 hjl)
  rw [hj] at h1
  have h2 := List.all_eq_true.1 h1 i (List.mem_range.2 hil)
  have hb : Nat.beq i j = false := Bool.eq_false_iff.2 fun h => hne (Nat.eq_of_beq_eq_true h)
  rw [hb, hi] at h2
  simpa [ht] using h2
theorem back_spec (h : backB ops = true) {j : Nat} {o : Oper} (hj : ops[j]? = some o) {e : Edge} (he : e ∈ o.after.toList) (hb : Region.binds .any e = true) : e.on < j := by
  have hjl : j < ops.size := (Array.getElem?_eq_some_iff.1 hj).1
  have h1 := List.all_eq_true.1 h j (List.mem_range.2 hjl)
  rw [hj] at h1
  have h2 := List.all_eq_true.1 h1 e he
  rw [hb] at h2
  simpa using h2

/-- An operation finds its operands as in the text's order, wherever it stands. -/
theorem env_agrees (htm : tempsB ops = true) (hS : ∀ j o, ops[j]? = some o → S j = true → ∀ e, e ∈ o.after.toList → Region.binds .any e = true → S e.on = true)
    {j : Nat} {o : Oper} (hj : ops[j]? = some o) (hno : S j = false) (hpre : ∀ i, i < j → ((Region.before ops).getD j 0).testBit i = true → S i = true) {t : Tmp} (ht : t ∈ namesOf o) :
    (envOf ops W S e0 ops.size)[t]? = (envOf ops W (fun k => Nat.blt k j) e0 ops.size)[t]? := by
  refine envOf_at t _ fun k hk hd => ?_
  by_cases hkj : k = j
  · subst hkj
    rw [hno]
    exact (Bool.eq_false_iff.2 (by simp)).symm
  · have hb := temps_spec htm hj hd ht hkj
    by_cases hlt : k < j
    · rw [Nat.max_eq_right (by omega), Nat.min_eq_left (by omega)] at hb
      rw [hpre k hlt hb]
      simp [hlt]
    · rw [Nat.max_eq_left (by omega), Nat.min_eq_right (by omega)] at hb
      have : S k = false := by
        cases hs : S k with
        | false => rfl
        | true => rw [before_closed S hS k j hb hs] at hno; cases hno
      rw [this]
      exact (Bool.eq_false_iff.2 (by simp; omega)).symm


/-! ### Regions that leave the heap alone -/
theorem map_heap {x : Option Value} {v : Value} {H' : AH} (h : x.map (·, H) = some (v, H')) : H' = H := by
  cases x with
  | none => cases h
  | some y => cases h; rfl

theorem evOp_calm {v : Value} {H' : AH} (hc : calmB o.op = true) (h : evOp P call o ρ H = some (v, H')) : H' = H := by
  obtain ⟨dst, op, type, pos, after, guard⟩ := o
  cases op <;> simp only [calmB] at hc <;> try (cases hc; done)
  case call c =>
    simp only [evOp] at h
    unfold callA at h
    split at hc
    · rename_i hcal
      rw [hcal] at h
      simp only at h
      split at h
      · cases h; rfl
      · rename_i m _ _ _ _
        cases hm : mapRow H m with
        | none => rw [hm] at h; cases h
        | some es => rw [hm] at h; cases h; rfl
      · exact map_heap h
    · cases hc
  all_goals simp only [evOp] at h
  all_goals first
    | (exact map_heap h)
    | (cases h; rfl)
    | ((repeat' split at h) <;> first | exact map_heap h | (cases h; done) | (cases h; rfl))


theorem envOf_lt (j : Nat) : ∀ n, j ≤ n → envOf ops W (fun k => Nat.blt k j) e0 n = envOf ops W (fun _ => true) e0 j
  | 0, h => by
    obtain rfl : j = 0 := by omega
    rfl
  | n + 1, h => by
    by_cases hj : j = n + 1
    · subst hj
      have : ∀ m, m ≤ n + 1 → envOf ops W (fun k => Nat.blt k (n + 1)) e0 m = envOf ops W (fun _ => true) e0 m := by
        intro m hm
        induction m with
        | zero => rfl
        | succ m ih =>
          have hb : Nat.blt m (n + 1) = true := by simp; omega
          simp only [envOf, hb, if_true]
          rw [ih (by omega)]
      exact this _ (Nat.le_refl _)
    · have hb : Nat.blt n j = false := Bool.eq_false_iff.2 (by simp; omega)
      simp only [envOf, hb, Bool.false_eq_true, if_false]
      exact envOf_lt j n (by omega)

theorem ready_spec {listed : Array Bool} {i : Nat} (h : i ∈ Region.ready .any ops listed) : i < ops.size ∧ listed.getD i true = false ∧ ∃ o, ops[i]? = some o ∧ ∀ e, e ∈ o.after.toList → Region.binds .any e = true → listed.getD e.on false = true := by
  unfold Region.ready at h
  rw [List.mem_filter, List.mem_range] at h
  obtain ⟨h1, h2⟩ := h
  rw [Bool.and_eq_true] at h2
  refine ⟨h1, by simpa using h2.1, ops[i], Array.getElem?_eq_getElem h1, fun e he hb => ?_⟩
  have h3 := h2.2
  rw [Array.getElem?_eq_getElem h1] at h3
  simp only [Option.map_some, Option.getD_some] at h3
  rw [← Array.all_toList] at h3
  have := List.all_eq_true.1 h3 e he
  simpa [hb] using this

theorem ready_nil {listed : Array Bool} (hbk : backB ops = true) (hl : listed.size = ops.size) (h : Region.ready .any ops listed = []) : ∀ j, j < ops.size → listed.getD j false = true := by
  intro j
  induction j using Nat.strongRecOn with
  | _ j ih =>
    intro hj
    cases hc : listed.getD j false with
    | true => rfl
    | false =>
      have hmem : j ∈ Region.ready .any ops listed := by
        unfold Region.ready
        rw [List.mem_filter, List.mem_range]
        refine ⟨hj, ?_⟩
        have h0 : listed.getD j true = false := by
          rw [Array.getD_eq_getD_getElem?, Array.getElem?_eq_getElem (by omega)] at hc ⊢
          exact hc
        rw [h0, Array.getElem?_eq_getElem hj]
        simp only [Bool.not_false, Bool.true_and, Option.map_some, Option.getD_some]
        rw [← Array.all_toList]
        refine List.all_eq_true.2 fun e he => ?_
        cases hb : Region.binds .any e with
        | false => rfl
        | true =>
          have hlt := back_spec hbk (Array.getElem?_eq_getElem hj) he hb
          rw [ih e.on hlt (by omega)]
          rfl
      rw [h] at hmem
      cases hmem


theorem filter_le {α : Type} (p q : α → Bool) (h : ∀ x, q x = true → p x = true) : ∀ l : List α, (l.filter q).length ≤ (l.filter p).length
  | [] => Nat.le_refl _
  | a :: l => by
    have ih := filter_le p q h l
    simp only [List.filter_cons]
    cases hq : q a with
    | true => rw [h a hq]; simpa using ih
    | false => cases hp : p a <;> simp <;> omega
theorem filter_lt {α : Type} (p q : α → Bool) (h : ∀ x, q x = true → p x = true) : ∀ (l : List α) (i : α), i ∈ l → p i = true → q i = false → (l.filter q).length < (l.filter p).length
  | [], _, hi, _, _ => by cases hi
  | a :: l, i, hi, hp, hq => by
    simp only [List.filter_cons]
    rcases List.mem_cons.1 hi with rfl | hi
    · rw [hp, hq]
      have := filter_le p q h l
      simp
      omega
    · have ih := filter_lt p q h l i hi hp hq
      cases hqa : q a with
      | true => rw [h a hqa]; simpa using ih
      | false => cases hpa : p a <;> simp <;> omega

theorem evOp_names {e e' : List Value} (hs : ∀ cs b, o.op ≠ .select cs b) (h : ∀ t, t ∈ namesOf o → e[t]? = e'[t]?) : evOp P call o (rho e) H = evOp P call o (rho e') H := by
  refine evOp_congr hs fun x hx => ?_
  cases x with
  | tmp t =>
    have ht : t ∈ namesOf o := by
      unfold namesOf
      refine List.mem_append_right _ (List.mem_filterMap.2 ⟨.tmp t, by simpa using hx, rfl⟩)
    show e.getD t undef = e'.getD t undef
    rw [List.getD_eq_getElem?_getD, List.getD_eq_getElem?_getD, h t ht]
  | _ => rfl

theorem closed_set {listed : Array Bool} {i : Nat} (hl : listed.size = ops.size) (hi : i < ops.size) (hS : ∀ j o, ops[j]? = some o → listed.getD j false = true → ∀ e, e ∈ o.after.toList → Region.binds .any e = true → listed.getD e.on false = true)
    {o : Oper} (ho : ops[i]? = some o) (hr : ∀ e, e ∈ o.after.toList → Region.binds .any e = true → listed.getD e.on false = true) :
    ∀ j o, ops[j]? = some o → (listed.setIfInBounds i true).getD j false = true → ∀ e, e ∈ o.after.toList → Region.binds .any e = true → (listed.setIfInBounds i true).getD e.on false = true := by
  have up : ∀ k, listed.getD k false = true → (listed.setIfInBounds i true).getD k false = true := fun k hk => by
    rw [Array.getD_eq_getD_getElem?, Array.getElem?_setIfInBounds]
    split
    · rw [if_pos (by omega)]; rfl
    · rw [← Array.getD_eq_getD_getElem?]; exact hk
  intro j x hj hs e he hb
  by_cases hij : i = j
  · subst hij
    rw [ho] at hj; cases hj
    exact up _ (hr e he hb)
  · rw [Array.getD_eq_getD_getElem?, Array.getElem?_setIfInBounds, if_neg hij, ← Array.getD_eq_getD_getElem?] at hs
    exact up _ (hS j x hj hs e he hb)

theorem calm_any (hp : ProgOk P) (hcall : CallOk P call) (htm : tempsB ops = true) (hbk : backB ops = true) (hcalm : ∀ o, o ∈ ops → calmB o.op = true ∧ o.guard = none) {E : Nat → List Value}
    (hE : ∀ i o, ops[i]? = some o → evOp P call o (rho (E i)) H = some (W i, H) ∧ E i = envOf ops W (fun _ => true) e0 i) {φ0 : Phi} {w0 : World} {df : List Deferred} {Q : Exit → Act → World → Prop} (hs0 : Sim P φ0 H w0)
    (hk : ∀ φ w a, Step P φ0 H w0 φ H w → Sim P φ H w → EnvR P φ H w (envOf ops W (fun _ => true) e0 ops.size) a.tmps → a.defers = df → Q .normal a w) :
    ∀ (fuel : Nat) (listed : Array Bool) (a : Act) (w : World) (φ : Phi), listed.size = ops.size → ((List.range ops.size).filter fun k => !listed.getD k false).length ≤ fuel →
      (∀ j o, ops[j]? = some o → listed.getD j false = true → ∀ e, e ∈ o.after.toList → Region.binds .any e = true → listed.getD e.on false = true) →
      Step P φ0 H w0 φ H w → Sim P φ H w → EnvR P φ H w (envOf ops W (fun k => listed.getD k false) e0 ops.size) a.tmps → a.defers = df → wpAny P .any ops Q fuel listed a w := by
  have fin : ∀ (listed : Array Bool) (a : Act) (w : World) (φ : Phi), listed.size = ops.size → Region.ready .any ops listed = [] → Step P φ0 H w0 φ H w → Sim P φ H w → EnvR P φ H w (envOf ops W (fun k => listed.getD k false) e0 ops.size) a.tmps → a.defers = df → Q .normal a w := by
    intro listed a w φ hl hr st hs he hd
    have hall := ready_nil hbk hl hr
    refine hk φ w a st hs ?_ hd
    have : envOf ops W (fun k => listed.getD k false) e0 ops.size = envOf ops W (fun _ => true) e0 ops.size := by
      have go : ∀ n, n ≤ ops.size → envOf ops W (fun k => listed.getD k false) e0 n = envOf ops W (fun _ => true) e0 n := by
        intro n hn
        induction n with
        | zero => rfl
        | succ n ih => simp only [envOf, hall n (by omega), if_true]; rw [ih (by omega)]
      exact go _ (Nat.le_refl _)
    rwa [this] at he
  intro fuel
  induction fuel with
  | zero =>
    intro listed a w φ hl hc hS st hs he hd
    have hr : Region.ready .any ops listed = [] := by
      cases hr : Region.ready .any ops listed with
      | nil => rfl
      | cons i r =>
        have hm := ready_spec (show i ∈ Region.ready .any ops listed by rw [hr]; simp)
        have : i ∈ (List.range ops.size).filter fun k => !listed.getD k false := by
          rw [List.mem_filter, List.mem_range]
          refine ⟨hm.1, ?_⟩
          have h0 := hm.2.1
          rw [Array.getD_eq_getD_getElem?, Array.getElem?_eq_getElem (by omega)] at h0 ⊢
          simpa using h0
        have hnil := List.length_eq_zero_iff.1 (Nat.le_zero.1 hc)
        rw [hnil] at this
        cases this
    exact ⟨hr, fin listed a w φ hl hr st hs he hd⟩
  | succ fuel ih =>
    intro listed a w φ hl hc hS st hs he hd
    refine ⟨fun hr => fin listed a w φ hl hr st hs he hd, fun i hi => ?_⟩
    obtain ⟨hil, hno, o, ho, hpre⟩ := ready_spec hi
    have hno' : listed.getD i false = false := by
      rw [Array.getD_eq_getD_getElem?, Array.getElem?_eq_getElem (by omega)] at hno ⊢
      exact hno
    have hmem : o ∈ ops := Array.mem_of_getElem? ho
    obtain ⟨hca, hgu⟩ := hcalm o hmem
    have hsel : ∀ cs b, o.op ≠ .select cs b := fun cs b e => by rw [e] at hca; cases hca
    have hcl := closed_set hl hil hS ho hpre
    have hfun : (fun k => (listed.setIfInBounds i true).getD k false) = fun k => listed.getD k false || Nat.beq k i := by
      funext k
      rw [Array.getD_eq_getD_getElem?, Array.getElem?_setIfInBounds]
      by_cases hik : i = k
      · subst hik
        rw [if_pos rfl, if_pos (by omega), Nat.beq_refl]
        simp
      · have hb : Nat.beq k i = false := Bool.eq_false_iff.2 fun h => hik (Nat.eq_of_beq_eq_true h).symm
        rw [if_neg hik, hb, Bool.or_false, ← Array.getD_eq_getD_getElem?]
    have hii : (listed.setIfInBounds i true).getD i false = true := by
      have h4 := congrFun hfun i
      rw [h4, Nat.beq_refl]
      simp
    have hop : evOp P call o (rho (envOf ops W (fun k => listed.getD k false) e0 ops.size)) H = some (W i, H) := by
      have h1 := hE i o ho
      rw [h1.2, ← envOf_lt i ops.size (by omega)] at h1
      rw [← h1.1]
      refine evOp_names hsel fun t ht => env_agrees htm hS ho hno' (fun k hki hb => ?_) ht
      have h2 := before_closed (fun k => (listed.setIfInBounds i true).getD k false) hcl i k hb hii
      have h4 := congrFun hfun k
      rw [h4] at h2
      have hb2 : Nat.beq k i = false := Bool.eq_false_iff.2 fun h => by have := Nat.eq_of_beq_eq_true h; omega
      simpa [hb2] using h2
    have hadd : envOf ops W (fun k => (listed.setIfInBounds i true).getD k false) e0 ops.size = putE (envOf ops W (fun k => listed.getD k false) e0 ops.size) o.dst (W i) := by
      have hd2 : dstOf ops i = o.dst := by unfold dstOf; rw [ho]; rfl
      rw [hfun, ← hd2]
      refine envOf_add i hno' ops.size hil fun k hik hkn hsk => ?_
      cases hdi : dstOf ops i with
      | none => exact .inl rfl
      | some t =>
        refine .inr fun heq => ?_
        have hko : ops[k]? = some ops[k] := Array.getElem?_eq_getElem hkn
        have hdk : ops[k].dst = some t := by have : dstOf ops k = ops[k].dst := by unfold dstOf; rw [hko]; rfl
                                             rw [← this, ← heq]
        have hb := temps_spec htm hko hdi (show t ∈ namesOf ops[k] by unfold namesOf; rw [hdk]; simp) (by omega)
        rw [Nat.max_eq_right (by omega), Nat.min_eq_left (by omega)] at hb
        have h3 := before_closed (fun k => listed.getD k false) hS k i hb hsk
        rw [hno'] at h3
        cases h3
    unfold wpOp
    rw [ho]
    have hw : Region.wanted o (yielded ops a.tmps) = true := by unfold Region.wanted; rw [hgu]
    simp only [hw, if_true]
    refine .inl (evOp_sound hp hcall hs (fun x => he.rho x) hop _ Q fun v' w' ⟨φ', st', hs', hv'⟩ => ?_)
    refine ih _ _ _ φ' (by simpa using hl) ?_ hcl (st.trans hs0 st') hs' ?_ (by rw [put_defers', hd])
    · have hlt : ((List.range ops.size).filter fun k => !(listed.setIfInBounds i true).getD k false).length < ((List.range ops.size).filter fun k => !listed.getD k false).length := by
        refine filter_lt _ _ (fun x hx => ?_) _ i (List.mem_range.2 hil) (by simp [hno']) (by simp [hii])
        have h4 := congrFun hfun x
        rw [h4] at hx
        simp at hx
        simp [hx.1]
      omega
    · rw [hadd]
      exact (he.mono st').put o.dst hv'

theorem calm_region (hm : P.follows .mixedOrders = true) (hp : ProgOk P) (hcall : CallOk P call) (hok : calmReg ops = true) {e e' : List Value} {H' : AH} (h : evOps P call ops ops.toList e H = some (e', H')) :
    ∀ φ w (a : Act) (Q : Exit → Act → World → Prop), Sim P φ H w → EnvR P φ H w e a.tmps → EndOk P φ H w e' H' a.defers (Q .normal) → RegWp P ops true Q a w := by
  intro φ w a Q hs he hk
  unfold calmReg at hok
  rw [Bool.and_eq_true, Bool.and_eq_true] at hok
  obtain ⟨⟨htm, hbk⟩, hall⟩ := hok
  have hcalm : ∀ o, o ∈ ops → calmB o.op = true ∧ o.guard = none := fun o ho => by
    have := List.all_eq_true.1 hall o (by simpa using ho)
    rw [Bool.and_eq_true] at this
    exact ⟨this.1, by simpa using this.2⟩
  obtain ⟨W, E, K, h1, h2, h3, h4, h5⟩ := trace _ _ _ _ _ h
  have hg : ∀ (o : Oper) (x : List Value), o.guard = none → guardA ops o x = some true := fun o x hx => by unfold guardA; rw [hx]
  have step : ∀ i o, ops[i]? = some o → evOp P call o (rho (E i)) (K i) = some (W i, K (i + 1)) ∧ E (i + 1) = putE (E i) o.dst (W i) := fun i o ho => by
    obtain ⟨hst, hE⟩ := h5 i o (by rw [Array.getElem?_toList]; exact ho)
    refine ⟨?_, hE⟩
    rcases hst with ⟨_, hst⟩ | ⟨hst, _⟩
    · exact hst
    · rw [hg o _ (hcalm o (Array.mem_of_getElem? ho)).2] at hst; cases hst
  have hK : ∀ i, i ≤ ops.size → K i = H := by
    intro i hi
    induction i with
    | zero => exact h2
    | succ i ih =>
      have ho : ops[i]? = some ops[i] := Array.getElem?_eq_getElem (by omega)
      have := evOp_calm (hcalm _ (Array.mem_of_getElem? ho)).1 (step i _ ho).1
      rw [this, ih (by omega)]
  have hE : ∀ i, i ≤ ops.size → E i = envOf ops W (fun _ => true) e i := fun i hi => trace_env h1 (fun i o ho => (step i o ho).2) hi
  have hlen : ops.toList.length = ops.size := by simp
  rw [hlen] at h3 h4
  have hH : H' = H := by rw [← h4, hK _ (Nat.le_refl _)]
  subst hH
  have hB : RowKit.Below w.heap.size w { w with drawn := w.drawn + 1 } := (RowKit.Below.refl _ w).drew
  have hs1 := sim_below hs hB
  have st1 := step_below hs hB
  refine regWp_any hm (calm_any hp hcall htm hbk hcalm (E := E) (W := W) (e0 := e) (φ0 := φ) (w0 := w) (df := a.defers) (fun i o ho => ⟨?_, hE i (by have := (Array.getElem?_eq_some_iff.1 ho).1; omega)⟩) hs (fun φ' w' a' st hs' he' hd => ?_) ops.size _ a _ φ (by simp) ?_ ?_ st1 hs1 ?_ rfl)
  · have hil := (Array.getElem?_eq_some_iff.1 ho).1
    have := (step i o ho).1
    rwa [hK i (by omega), hK (i + 1) (by omega)] at this
  · rw [← hE _ (Nat.le_refl _), h3] at he'
    exact hk φ' w' a' st hs' he' hd
  · exact Nat.le_trans (List.length_filter_le _ _) (by simp)
  · intro j o _ hj
    rw [Array.getD_eq_getD_getElem?, Array.getElem?_replicate] at hj
    split at hj <;> cases hj
  · have : ∀ n, envOf ops W (fun k => (Array.replicate ops.size false).getD k false) e n = e := by
      intro n
      induction n with
      | zero => rfl
      | succ n ih =>
        have hf : (Array.replicate ops.size false).getD n false = false := by
          rw [Array.getD_eq_getD_getElem?, Array.getElem?_replicate]; split <;> rfl
        simp only [envOf, hf, Bool.false_eq_true, if_false]
        exact ih
    rw [this]
    exact he.mono st1

theorem one_any (hp : ProgOk P) (hcall : CallOk P call) (htm : tempsB ops = true) (hbk : backB ops = true) (hcalm : ∀ o, o ∈ ops → (∀ cs b, o.op ≠ .select cs b) ∧ o.guard = none) {E : Nat → List Value} {Hs : Bool → AH} {k0 : Nat} (hk0 : k0 < ops.size) (hH0 : Hs false = H)
    (hE : ∀ i o, ops[i]? = some o → ((∀ b, i ≠ k0 → evOp P call o (rho (E i)) (Hs b) = some (W i, Hs b)) ∧ (i = k0 → evOp P call o (rho (E i)) (Hs false) = some (W i, Hs true))) ∧ E i = envOf ops W (fun _ => true) e0 i) {φ0 : Phi} {w0 : World} {df : List Deferred} {Q : Exit → Act → World → Prop} (hs0 : Sim P φ0 H w0)
    (hk : ∀ φ w a, Step P φ0 H w0 φ (Hs true) w → Sim P φ (Hs true) w → EnvR P φ (Hs true) w (envOf ops W (fun _ => true) e0 ops.size) a.tmps → a.defers = df → Q .normal a w) :
    ∀ (fuel : Nat) (listed : Array Bool) (a : Act) (w : World) (φ : Phi), listed.size = ops.size → ((List.range ops.size).filter fun k => !listed.getD k false).length ≤ fuel →
      (∀ j o, ops[j]? = some o → listed.getD j false = true → ∀ e, e ∈ o.after.toList → Region.binds .any e = true → listed.getD e.on false = true) →
      Step P φ0 H w0 φ (Hs (listed.getD k0 false)) w → Sim P φ (Hs (listed.getD k0 false)) w → EnvR P φ (Hs (listed.getD k0 false)) w (envOf ops W (fun k => listed.getD k false) e0 ops.size) a.tmps → a.defers = df → wpAny P .any ops Q fuel listed a w := by
  have fin : ∀ (listed : Array Bool) (a : Act) (w : World) (φ : Phi), listed.size = ops.size → Region.ready .any ops listed = [] → Step P φ0 H w0 φ (Hs (listed.getD k0 false)) w → Sim P φ (Hs (listed.getD k0 false)) w → EnvR P φ (Hs (listed.getD k0 false)) w (envOf ops W (fun k => listed.getD k false) e0 ops.size) a.tmps → a.defers = df → Q .normal a w := by
    intro listed a w φ hl hr st hs he hd
    have hall := ready_nil hbk hl hr
    rw [hall k0 hk0] at st hs he
    refine hk φ w a st hs ?_ hd
    have : envOf ops W (fun k => listed.getD k false) e0 ops.size = envOf ops W (fun _ => true) e0 ops.size := by
      have go : ∀ n, n ≤ ops.size → envOf ops W (fun k => listed.getD k false) e0 n = envOf ops W (fun _ => true) e0 n := by
        intro n hn
        induction n with
        | zero => rfl
        | succ n ih => simp only [envOf, hall n (by omega), if_true]; rw [ih (by omega)]
      exact go _ (Nat.le_refl _)
    rwa [this] at he
  intro fuel
  induction fuel with
  | zero =>
    intro listed a w φ hl hc hS st hs he hd
    have hr : Region.ready .any ops listed = [] := by
      cases hr : Region.ready .any ops listed with
      | nil => rfl
      | cons i r =>
        have hm := ready_spec (show i ∈ Region.ready .any ops listed by rw [hr]; simp)
        have : i ∈ (List.range ops.size).filter fun k => !listed.getD k false := by
          rw [List.mem_filter, List.mem_range]
          refine ⟨hm.1, ?_⟩
          have h0 := hm.2.1
          rw [Array.getD_eq_getD_getElem?, Array.getElem?_eq_getElem (by omega)] at h0 ⊢
          simpa using h0
        have hnil := List.length_eq_zero_iff.1 (Nat.le_zero.1 hc)
        rw [hnil] at this
        cases this
    exact ⟨hr, fin listed a w φ hl hr st hs he hd⟩
  | succ fuel ih =>
    intro listed a w φ hl hc hS st hs he hd
    refine ⟨fun hr => fin listed a w φ hl hr st hs he hd, fun i hi => ?_⟩
    obtain ⟨hil, hno, o, ho, hpre⟩ := ready_spec hi
    have hno' : listed.getD i false = false := by
      rw [Array.getD_eq_getD_getElem?, Array.getElem?_eq_getElem (by omega)] at hno ⊢
      exact hno
    have hmem : o ∈ ops := Array.mem_of_getElem? ho
    obtain ⟨hca, hgu⟩ := hcalm o hmem
    have hsel := hca
    have hcl := closed_set hl hil hS ho hpre
    have hfun : (fun k => (listed.setIfInBounds i true).getD k false) = fun k => listed.getD k false || Nat.beq k i := by
      funext k
      rw [Array.getD_eq_getD_getElem?, Array.getElem?_setIfInBounds]
      by_cases hik : i = k
      · subst hik
        rw [if_pos rfl, if_pos (by omega), Nat.beq_refl]
        simp
      · have hb : Nat.beq k i = false := Bool.eq_false_iff.2 fun h => hik (Nat.eq_of_beq_eq_true h).symm
        rw [if_neg hik, hb, Bool.or_false, ← Array.getD_eq_getD_getElem?]
    have hii : (listed.setIfInBounds i true).getD i false = true := by
      have h4 := congrFun hfun i
      rw [h4, Nat.beq_refl]
      simp
    have hop : evOp P call o (rho (envOf ops W (fun k => listed.getD k false) e0 ops.size)) (Hs (listed.getD k0 false)) = some (W i, Hs ((listed.setIfInBounds i true).getD k0 false)) := by
      have h1 := hE i o ho
      have hh : evOp P call o (rho (E i)) (Hs (listed.getD k0 false)) = some (W i, Hs ((listed.setIfInBounds i true).getD k0 false)) := by
        have h4 := congrFun hfun k0
        rw [h4]
        by_cases hik : i = k0
        · subst hik
          rw [hno', Nat.beq_refl, Bool.false_or]
          exact h1.1.2 rfl
        · have hb2 : Nat.beq k0 i = false := Bool.eq_false_iff.2 fun h => hik (Nat.eq_of_beq_eq_true h).symm
          rw [hb2, Bool.or_false]
          exact h1.1.1 _ hik
      rw [h1.2, ← envOf_lt i ops.size (by omega)] at hh
      rw [← hh]
      refine evOp_names hsel fun t ht => env_agrees htm hS ho hno' (fun k hki hb => ?_) ht
      have h2 := before_closed (fun k => (listed.setIfInBounds i true).getD k false) hcl i k hb hii
      have h4 := congrFun hfun k
      rw [h4] at h2
      have hb2 : Nat.beq k i = false := Bool.eq_false_iff.2 fun h => by have := Nat.eq_of_beq_eq_true h; omega
      simpa [hb2] using h2
    have hadd : envOf ops W (fun k => (listed.setIfInBounds i true).getD k false) e0 ops.size = putE (envOf ops W (fun k => listed.getD k false) e0 ops.size) o.dst (W i) := by
      have hd2 : dstOf ops i = o.dst := by unfold dstOf; rw [ho]; rfl
      rw [hfun, ← hd2]
      refine envOf_add i hno' ops.size hil fun k hik hkn hsk => ?_
      cases hdi : dstOf ops i with
      | none => exact .inl rfl
      | some t =>
        refine .inr fun heq => ?_
        have hko : ops[k]? = some ops[k] := Array.getElem?_eq_getElem hkn
        have hdk : ops[k].dst = some t := by have : dstOf ops k = ops[k].dst := by unfold dstOf; rw [hko]; rfl
                                             rw [← this, ← heq]
        have hb := temps_spec htm hko hdi (show t ∈ namesOf ops[k] by unfold namesOf; rw [hdk]; simp) (by omega)
        rw [Nat.max_eq_right (by omega), Nat.min_eq_left (by omega)] at hb
        have h3 := before_closed (fun k => listed.getD k false) hS k i hb hsk
        rw [hno'] at h3
        cases h3
    unfold wpOp
    rw [ho]
    have hw : Region.wanted o (yielded ops a.tmps) = true := by unfold Region.wanted; rw [hgu]
    simp only [hw, if_true]
    refine .inl (evOp_sound hp hcall hs (fun x => he.rho x) hop _ Q fun v' w' ⟨φ', st', hs', hv'⟩ => ?_)
    refine ih _ _ _ φ' (by simpa using hl) ?_ hcl (st.trans hs0 st') hs' ?_ (by rw [put_defers', hd])
    · have hlt : ((List.range ops.size).filter fun k => !(listed.setIfInBounds i true).getD k false).length < ((List.range ops.size).filter fun k => !listed.getD k false).length := by
        refine filter_lt _ _ (fun x hx => ?_) _ i (List.mem_range.2 hil) (by simp [hno']) (by simp [hii])
        have h4 := congrFun hfun x
        rw [h4] at hx
        simp at hx
        simp [hx.1]
      omega
    · rw [hadd]
      exact (he.mono st').put o.dst hv'

theorem eqA_flat {t : TypeId} {x y : Value} (h : (match P.underlying t with | some (.int _) | some .string | some .bool => true | _ => false) = true) (H2 : AH) : eqA P H2 t x y = none := by
  unfold eqA
  split at h <;> rename_i hu <;> first | (cases h; done) | (rw [hu]; done) | (rw [hu]; split <;> simp_all)

theorem evOp_free {ρ : Operand → Value} (h : freeB P o.op = true) : ∃ r : Option Value, ∀ H2 : AH, evOp P call o ρ H2 = r.map (·, H2) := by
  cases ho : o.op <;> rw [ho] at h <;> simp only [freeB] at h <;> try (cases h; done)
  case move x => exact ⟨some (ρ x), fun H2 => by unfold evOp; simp only [ho, Option.map_some]⟩
  case assign x => exact ⟨some (ρ x), fun H2 => by unfold evOp; simp only [ho, Option.map_some]⟩
  case pick c a b =>
    refine ⟨match ρ c with | .bool true => some (ρ a) | .bool false => some (ρ b) | _ => none, fun H2 => ?_⟩
    unfold evOp; simp only [ho]
    split <;> simp_all
  case extract t ix =>
    refine ⟨match ρ t with | .tuple vs => vs[ix]? | _ => none, fun H2 => ?_⟩
    unfold evOp; simp only [ho]
    split <;> simp_all
  case build t parts => exact ⟨buildA P t (parts.toList.map fun p => (p.1, ρ p.2)), fun H2 => by unfold evOp; simp only [ho]⟩
  case nilCheck x =>
    refine ⟨match ρ x with | .pointer (some a) => some (.pointer (some a)) | .func (.func f) a b => some (.func (.func f) a b) | _ => none, fun H2 => ?_⟩
    unfold evOp; simp only [ho]
    split <;> simp_all
  case fieldAddr s x f => exact ⟨fieldAddrA P s (ρ x) f, fun H2 => by unfold evOp; simp only [ho]⟩
  case indexAddr t x i => exact ⟨indexAddrA P t (ρ x) (ρ i), fun H2 => by unfold evOp; simp only [ho]⟩
  case unOp => exact ⟨flatOp P o ρ, fun H2 => by unfold evOp; simp only [ho]⟩
  case index => exact ⟨flatOp P o ρ, fun H2 => by unfold evOp; simp only [ho]⟩
  case field => exact ⟨flatOp P o ρ, fun H2 => by unfold evOp; simp only [ho]⟩
  case typeAssert => exact ⟨flatOp P o ρ, fun H2 => by unfold evOp; simp only [ho]⟩
  case binOp op t x y t' =>
    refine ⟨flatOp P o ρ, fun H2 => ?_⟩
    unfold evOp; simp only [ho]
    cases op <;> first | (simp only at h; rw [eqA_flat h H2]; done) | rfl | (cases eqA P H2 t (ρ x) (ρ y) <;> rfl)
  case slice t x lo hi mx =>
    refine ⟨flatOp P o ρ, fun H2 => ?_⟩
    unfold evOp; simp only [ho]
    split
    · rename_i hu; rw [hu] at h; cases h
    · rfl
  case convert src dst x =>
    refine ⟨flatOp P o ρ, fun H2 => ?_⟩
    unfold evOp; simp only [ho]
    have hc : convertA P H2 src dst (ρ x) = none := by
      split at h
      · rename_i k hu
        unfold convertA
        rw [hu]
      · cases h
    rw [hc]
  case call c =>
    split at h
    · rename_i hc
      refine ⟨match c.args.toList.map ρ, (c.argTypes[0]?).bind P.underlying with
        | [.slice _ n _], some (.slice _) => some (.int .i64 n)
        | _, _ => flatOp P o ρ, fun H2 => ?_⟩
      unfold evOp; simp only [ho, callA, hc]
      generalize c.args.toList.map ρ = l
      generalize (c.argTypes[0]?).bind P.underlying = d at h
      rcases d with _ | dd
      · rcases l with _ | ⟨v, _ | ⟨u, l⟩⟩ <;> first | rfl | (cases v <;> rfl)
      · cases dd <;> first | (cases h; done) | (rcases l with _ | ⟨v, _ | ⟨u, l⟩⟩ <;> first | rfl | (cases v <;> rfl))
    · rename_i hc
      exact ⟨flatOp P o ρ, fun H2 => by unfold evOp; simp only [ho, callA, hc]⟩
    · rename_i hc
      exact ⟨flatOp P o ρ, fun H2 => by unfold evOp; simp only [ho, callA, hc]⟩
    · cases h

theorem one_region (hm : P.follows .mixedOrders = true) (hp : ProgOk P) (hcall : CallOk P call) (hok : oneReg P ops = true) {e e' : List Value} {H' : AH} (h : evOps P call ops ops.toList e H = some (e', H')) (hne : 0 < ops.size) :
    ∀ φ w (a : Act) (Q : Exit → Act → World → Prop), Sim P φ H w → EnvR P φ H w e a.tmps → EndOk P φ H w e' H' a.defers (Q .normal) → RegWp P ops true Q a w := by
  intro φ w a Q hs he hk
  unfold oneReg at hok
  rw [Bool.and_eq_true, Bool.and_eq_true, Bool.and_eq_true] at hok
  obtain ⟨⟨⟨htm, hbk⟩, hall⟩, hcnt⟩ := hok
  have hcnt : ((List.range ops.size).filter fun i => match ops[i]? with | some o => !freeB P o.op | none => false).length ≤ 1 := Nat.le_of_ble_eq_true hcnt
  have hcalm : ∀ o, o ∈ ops → (∀ cs b, o.op ≠ .select cs b) ∧ o.guard = none := fun o ho => by
    have := List.all_eq_true.1 hall o (by simpa using ho)
    rw [Bool.and_eq_true] at this
    exact ⟨fun cs b e => by rw [e] at this; simp [selB] at this, by simpa using this.1⟩
  -- which operation minds the heap
  obtain ⟨k0, hk0, hfree⟩ : ∃ k0, k0 < ops.size ∧ ∀ i o, ops[i]? = some o → i ≠ k0 → freeB P o.op = true := by
    cases hf : (List.range ops.size).filter fun i => match ops[i]? with | some o => !freeB P o.op | none => false with
    | nil =>
      refine ⟨0, hne, fun i o ho _ => ?_⟩
      cases hb : freeB P o.op with
      | true => rfl
      | false =>
        have : i ∈ (List.range ops.size).filter fun i => match ops[i]? with | some o => !freeB P o.op | none => false := by
          rw [List.mem_filter, List.mem_range]
          exact ⟨(Array.getElem?_eq_some_iff.1 ho).1, by rw [ho]; simp [hb]⟩
        rw [hf] at this; cases this
    | cons k r =>
      have hk : k ∈ (List.range ops.size).filter fun i => match ops[i]? with | some o => !freeB P o.op | none => false := by rw [hf]; simp
      rw [List.mem_filter, List.mem_range] at hk
      refine ⟨k, hk.1, fun i o ho hik => ?_⟩
      cases hb : freeB P o.op with
      | true => rfl
      | false =>
        have : i ∈ (List.range ops.size).filter fun i => match ops[i]? with | some o => !freeB P o.op | none => false := by
          rw [List.mem_filter, List.mem_range]
          exact ⟨(Array.getElem?_eq_some_iff.1 ho).1, by rw [ho]; simp [hb]⟩
        rw [hf] at this
        rw [hf] at hcnt
        simp only [List.length_cons] at hcnt
        have hr : r = [] := List.length_eq_zero_iff.1 (by omega)
        subst hr
        simp only [List.mem_singleton] at this
        exact absurd this hik
  obtain ⟨W, E, K, h1, h2, h3, h4, h5⟩ := trace _ _ _ _ _ h
  have hg : ∀ (o : Oper) (x : List Value), o.guard = none → guardA ops o x = some true := fun o x hx => by unfold guardA; rw [hx]
  have step : ∀ i o, ops[i]? = some o → evOp P call o (rho (E i)) (K i) = some (W i, K (i + 1)) ∧ E (i + 1) = putE (E i) o.dst (W i) := fun i o ho => by
    obtain ⟨hst, hE⟩ := h5 i o (by rw [Array.getElem?_toList]; exact ho)
    refine ⟨?_, hE⟩
    rcases hst with ⟨_, hst⟩ | ⟨hst, _⟩
    · exact hst
    · rw [hg o _ (hcalm o (Array.mem_of_getElem? ho)).2] at hst; cases hst
  have free : ∀ i o, ops[i]? = some o → i ≠ k0 → K (i + 1) = K i ∧ ∀ H2, evOp P call o (rho (E i)) H2 = some (W i, H2) := fun i o ho hik => by
    obtain ⟨r, hr⟩ := evOp_free (call := call) (ρ := rho (E i)) (hfree i o ho hik)
    have h6 := (step i o ho).1
    rw [hr] at h6
    cases r with
    | none => cases h6
    | some v =>
      simp only [Option.map_some, Option.some.injEq, Prod.mk.injEq] at h6
      refine ⟨h6.2.symm, fun H2 => ?_⟩
      rw [hr, ← h6.1]; rfl
  have hlen : ops.toList.length = ops.size := by simp
  rw [hlen] at h3 h4
  have hK0 : ∀ i, i ≤ k0 → K i = H := by
    intro i hi
    induction i with
    | zero => exact h2
    | succ i ih =>
      have ho : ops[i]? = some ops[i] := Array.getElem?_eq_getElem (by omega)
      rw [(free i _ ho (by omega)).1, ih (by omega)]
  have hK1 : ∀ i, k0 < i → i ≤ ops.size → K i = H' := by
    have key : ∀ d, d + (k0 + 1) ≤ ops.size → K (d + (k0 + 1)) = K (k0 + 1) := by
      intro d
      induction d with
      | zero => intro _; rw [Nat.zero_add]
      | succ d ih =>
        intro hd
        have ho : ops[d + (k0 + 1)]? = some (ops[d + (k0 + 1)]'(by omega)) := Array.getElem?_eq_getElem (by omega)
        rw [show d + 1 + (k0 + 1) = d + (k0 + 1) + 1 by omega, (free _ _ ho (by omega)).1, ih (by omega)]
    intro i hi hil
    have e1 := key (i - (k0 + 1)) (by omega)
    have e2 := key (ops.size - (k0 + 1)) (by omega)
    rw [show i - (k0 + 1) + (k0 + 1) = i by omega] at e1
    rw [show ops.size - (k0 + 1) + (k0 + 1) = ops.size by omega] at e2
    rw [e1, ← e2, h4]
  have hE : ∀ i, i ≤ ops.size → E i = envOf ops W (fun _ => true) e i := fun i hi => trace_env h1 (fun i o ho => (step i o ho).2) hi
  have hB : RowKit.Below w.heap.size w { w with drawn := w.drawn + 1 } := (RowKit.Below.refl _ w).drew
  have hs1 := sim_below hs hB
  have st1 := step_below hs hB
  have hf0 : (Array.replicate ops.size false).getD k0 false = false := by
    rw [Array.getD_eq_getD_getElem?, Array.getElem?_replicate]; split <;> rfl
  refine regWp_any hm (one_any hp hcall htm hbk hcalm (E := E) (W := W) (e0 := e) (φ0 := φ) (w0 := w) (df := a.defers) (Hs := fun b => bif b then H' else H) (k0 := k0) hk0 rfl (fun i o ho => ⟨⟨fun b hik => (free i o ho hik).2 _, fun hik => ?_⟩, hE i (by have := (Array.getElem?_eq_some_iff.1 ho).1; omega)⟩) hs (fun φ' w' a' st hs' he' hd => ?_) ops.size _ a _ φ (by simp) ?_ ?_ ?_ ?_ ?_ rfl)
  · subst hik
    have := (step i o ho).1
    rw [hK0 i (Nat.le_refl _), hK1 (i + 1) (by omega) (by omega)] at this
    exact this
  · rw [← hE _ (Nat.le_refl _), h3] at he'
    exact hk φ' w' a' st hs' he' hd
  · exact Nat.le_trans (List.length_filter_le _ _) (by simp)
  · intro j o _ hj
    rw [Array.getD_eq_getD_getElem?, Array.getElem?_replicate] at hj
    split at hj <;> cases hj
  · rw [hf0]; exact st1
  · rw [hf0]; exact hs1
  · have : ∀ n, envOf ops W (fun k => (Array.replicate ops.size false).getD k false) e n = e := by
      intro n
      induction n with
      | zero => rfl
      | succ n ih =>
        have hf : (Array.replicate ops.size false).getD n false = false := by
          rw [Array.getD_eq_getD_getElem?, Array.getElem?_replicate]; split <;> rfl
        simp only [envOf, hf, Bool.false_eq_true, if_false]
        exact ih
    rw [this, hf0]
    exact he.mono st1

end
end Go.Proofs.YtenolmhnmcjndaaGreatDoor.Ev
namespace Go.Proofs.YtenolmhnmcjndaaGreatDoor.Ev
set_option linter.unusedVariables false
set_option linter.unusedSimpArgs false
open Go

section
variable {P : Program} {call : CallA} {ops : Array Oper} {W : Nat → Value} {e0 : List Value} {H : AH}

theorem tempsG_spec (h : tempsG ops = true) {i j : Nat} {o : Oper} {t : Tmp} (hj : ops[j]? = some o) (hi : dstOf ops i = some t) (ht : t ∈ gnamesOf ops o) (hne : i ≠ j) : ((Region.before ops).getD (max i j) 0).testBit (min i j) = true := by
  have hjl : j < ops.size := (Array.getElem?_eq_some_iff.1 hj).1
  have hil : i < ops.size := by
    unfold dstOf at hi
    cases ho : ops[i]? with
    | none => rw [ho] at hi; cases hi
    | some x => exact (Array.getElem?_eq_some_iff.1 ho).1
  have h1 := List.all_eq_true.1 h j (List.mem_range.2 hjl)
  rw [hj] at h1
  have h2 := List.all_eq_true.1 h1 i (List.mem_range.2 hil)
  have hb : Nat.beq i j = false := Bool.eq_false_iff.2 fun h => hne (Nat.eq_of_beq_eq_true h)
  rw [hb, hi] at h2
  simpa [ht] using h2

theorem env_agreesG (htm : tempsG ops = true) {S : Nat → Bool} (hS : ∀ j o, ops[j]? = some o → S j = true → ∀ e, e ∈ o.after.toList → Region.binds .any e = true → S e.on = true)
    {j : Nat} {o : Oper} (hj : ops[j]? = some o) (hno : S j = false) (hpre : ∀ i, i < j → ((Region.before ops).getD j 0).testBit i = true → S i = true) {t : Tmp} (ht : t ∈ gnamesOf ops o) :
    (envOf ops W S e0 ops.size)[t]? = (envOf ops W (fun k => Nat.blt k j) e0 ops.size)[t]? := by
  refine envOf_at t _ fun k hk hd => ?_
  by_cases hkj : k = j
  · subst hkj
    rw [hno]
    exact (Bool.eq_false_iff.2 (by simp)).symm
  · have hb := tempsG_spec htm hj hd ht hkj
    by_cases hlt : k < j
    · rw [Nat.max_eq_right (by omega), Nat.min_eq_left (by omega)] at hb
      rw [hpre k hlt hb]
      simp [hlt]
    · rw [Nat.max_eq_left (by omega), Nat.min_eq_right (by omega)] at hb
      have : S k = false := by
        cases hs : S k with
        | false => rfl
        | true => rw [before_closed S hS k j hb hs] at hno; cases hno
      rw [this]
      exact (Bool.eq_false_iff.2 (by simp; omega)).symm

/-- The heap behind a set of operations. -/
def hAt (mind : Nat → Bool) (K : Nat → AH) (S : Nat → Bool) : Nat → AH
  | 0 => K 0
  | n + 1 => bif mind n && S n then K (n + 1) else hAt mind K S n
theorem hAt_some (mind : Nat → Bool) (K : Nat → AH) (S : Nat → Bool) : ∀ n, ∃ j, j ≤ n ∧ hAt mind K S n = K j ∧ (∀ k, k < n → mind k = true → S k = true → k < j) ∧ (j = 0 ∨ ∃ m, j = m + 1 ∧ mind m = true ∧ S m = true)
  | 0 => ⟨0, Nat.le_refl _, rfl, fun k hk => absurd hk (Nat.not_lt_zero k), .inl rfl⟩
  | n + 1 => by
    obtain ⟨j, hj, e, h1, h2⟩ := hAt_some mind K S n
    unfold hAt
    cases hms : mind n && S n with
    | true =>
      rw [Bool.and_eq_true] at hms
      exact ⟨n + 1, Nat.le_refl _, rfl, fun k hk _ _ => hk, .inr ⟨n, rfl, hms.1, hms.2⟩⟩
    | false =>
      refine ⟨j, by omega, e, fun k hk hm hs => ?_, h2⟩
      by_cases hkn : k = n
      · subst hkn; rw [hm, hs] at hms; cases hms
      · exact h1 k (by omega) hm hs
theorem hAt_skip {mind : Nat → Bool} {K : Nat → AH} {S : Nat → Bool} {i : Nat} : ∀ d, (∀ k, i ≤ k → k < i + d → mind k = true → S k = false) → hAt mind K S (i + d) = hAt mind K S i
  | 0, _ => rfl
  | d + 1, h => by
    rw [← Nat.add_assoc]
    unfold hAt
    have hb : (mind (i + d) && S (i + d)) = false := by
      cases hm : mind (i + d) with
      | false => rfl
      | true => rw [h (i + d) (by omega) (by omega) hm]; rfl
    rw [hb]
    show hAt mind K S (i + d) = _
    rw [hAt_skip d fun k h1 h2 h3 => h k h1 (by omega) h3]
    cases i <;> rfl
theorem hAt_pre {mind : Nat → Bool} {K : Nat → AH} {S : Nat → Bool} : ∀ i, (∀ j, j < i → mind j = false → K (j + 1) = K j) → (∀ j, j < i → mind j = true → S j = true) → hAt mind K S i = K i
  | 0, _, _ => rfl
  | i + 1, h1, h2 => by
    unfold hAt
    cases hm : mind i with
    | true => rw [h2 i (Nat.lt_succ_self i) hm]; rfl
    | false =>
      show hAt mind K S i = _
      rw [hAt_pre i (fun j hj => h1 j (by omega)) (fun j hj => h2 j (by omega)), h1 i (Nat.lt_succ_self i) hm]
theorem hAt_congr {mind : Nat → Bool} {K : Nat → AH} {S S' : Nat → Bool} : ∀ n, (∀ k, k < n → mind k = true → S k = S' k) → hAt mind K S n = hAt mind K S' n
  | 0, _ => rfl
  | n + 1, h => by
    unfold hAt
    rw [hAt_congr n fun k hk => h k (by omega)]
    cases hm : mind n with
    | false => rfl
    | true => rw [h n (Nat.lt_succ_self n) hm]

/-- What is as it was at the end was so all the way. -/
theorem still_mid {H Hm He : AH} (hw : WfH H) (s1 : HStep H Hm) (s2 : HStep Hm He) {c : Nat} {b b' : Blk} (hb : H.blk c = some b) (hb' : He.blk c = some b') (hv : b'.ver = b.ver) (hl : He.live c b' = true) : Hm.blk c = some b ∧ Hm.live c b = true := by
  obtain ⟨b1, h1, _, _, _, _, h6⟩ := s1.blk c b hb
  obtain ⟨b2, k1, _, _, _, k5, k6⟩ := s2.blk c b1 h1
  rw [hb'] at k1
  obtain rfl := Option.some.inj k1
  have hlt := hw.ver c b hb
  have hc := s1.clock
  rcases h6 with ⟨_, rfl⟩ | h6
  · exact ⟨h1, k5 hl⟩
  · rcases k6 with ⟨k6, _⟩ | k6 <;> omega

theorem load_same {t : TypeId} {x : Operand} {o : Oper} {ρ : Operand → Value} {H1 H2 : AH} {v : Value} {H' : AH} (ho : o.op = .load t x) (h : evOp P call o ρ H1 = some (v, H'))
    (hs : ∀ a, ρ x = .pointer (some a) → ∃ b, H1.blk a.block = some b ∧ H1.live a.block b = true ∧ H2.blk a.block = some b ∧ H2.live a.block b = true) : evOp P call o ρ H2 = some (v, H2) ∧ H' = H1 := by
  unfold evOp at h ⊢
  simp only [ho] at h ⊢
  split at h
  case h_2 => cases h
  rename_i a hx
  obtain ⟨b, g1, g2, g3, g4⟩ := hs a hx
  have hc : H2.cells a.block = H1.cells a.block := by unfold AH.cells; rw [g1, g3]; simp only [g2, g4]
  have hl : loadA P H2 t a = loadA P H1 t a := by unfold loadA; rw [hc]
  cases hv : loadA P H1 t a with
  | none => rw [hv] at h; cases h
  | some y =>
    rw [hv] at h
    simp only [Option.map_some, Option.some.injEq, Prod.mk.injEq] at h
    obtain ⟨rfl, rfl⟩ := h
    refine ⟨?_, rfl⟩
    simp only [hx, hl, hv, Option.map_some]

theorem look_same {t : TypeId} {x k : Operand} {ok : Bool} {o : Oper} {ρ : Operand → Value} {H1 H2 : AH} {v : Value} {H' : AH} (ho : o.op = .lookup t x k ok) (h : evOp P call o ρ H1 = some (v, H'))
    (hs : ∀ a, ρ x = .map (some a) → ∃ b, H1.blk a = some b ∧ H1.live a b = true ∧ H2.blk a = some b ∧ H2.live a b = true) : evOp P call o ρ H2 = some (v, H2) ∧ H' = H1 := by
  unfold evOp at h ⊢
  simp only [ho] at h ⊢
  have hm : mapRow H2 (ρ x) = mapRow H1 (ρ x) := by
    unfold mapRow
    split
    · rfl
    · rename_i r hx
      obtain ⟨b, g1, g2, g3, g4⟩ := hs r hx
      rw [g1, g3]
      simp only [g2, g4]
    · rfl
  have hl : lookupA P H2 t (ρ x) (ρ k) ok = lookupA P H1 t (ρ x) (ρ k) ok := by unfold lookupA; rw [hm]
  cases hv : lookupA P H1 t (ρ x) (ρ k) ok with
  | none => rw [hv] at h; cases h
  | some y =>
    rw [hv] at h
    simp only [Option.map_some, Option.some.injEq, Prod.mk.injEq] at h
    obtain ⟨rfl, rfl⟩ := h
    refine ⟨?_, rfl⟩
    simp only [hl, hv, Option.map_some]
theorem many_any (hp : ProgOk P) (hcall : CallOk P call) (htm : tempsG ops = true) (hbk : backB ops = true) (hsel : ∀ o, o ∈ ops → ∀ cs b, o.op ≠ .select cs b) {mind : Nat → Bool} {E : Nat → List Value} {K : Nat → AH} (hK0 : K 0 = H)
    (hch : ∀ i j, i < j → j < ops.size → mind i = true → mind j = true → ((Region.before ops).getD j 0).testBit i = true)
    (hE : ∀ i o, ops[i]? = some o → Stp P call ops o (E i) (K i) (W i) (K (i + 1)) ∧ E i = envOf ops W (fun _ => true) e0 i ∧ (mind i = false → K (i + 1) = K i ∧ (guardA ops o (E i) = some true → ∀ j, j ≤ ops.size → (∀ k, k < i → mind k = true → ((Region.before ops).getD i 0).testBit k = true → k < j) → (∀ k, i < k → k < ops.size → mind k = true → ((Region.before ops).getD k 0).testBit i = true → j ≤ k) → evOp P call o (rho (E i)) (K j) = some (W i, K j))))
    {φ0 : Phi} {w0 : World} {df : List Deferred} {Q : Exit → Act → World → Prop} (hs0 : Sim P φ0 H w0)
    (hk : ∀ φ w a, Step P φ0 H w0 φ (K ops.size) w → Sim P φ (K ops.size) w → EnvR P φ (K ops.size) w (envOf ops W (fun _ => true) e0 ops.size) a.tmps → a.defers = df → Q .normal a w) :
    ∀ (fuel : Nat) (listed : Array Bool) (a : Act) (w : World) (φ : Phi), listed.size = ops.size → ((List.range ops.size).filter fun k => !listed.getD k false).length ≤ fuel →
      (∀ j o, ops[j]? = some o → listed.getD j false = true → ∀ e, e ∈ o.after.toList → Region.binds .any e = true → listed.getD e.on false = true) →
      Step P φ0 H w0 φ (hAt mind K (fun k => listed.getD k false) ops.size) w → Sim P φ (hAt mind K (fun k => listed.getD k false) ops.size) w → EnvR P φ (hAt mind K (fun k => listed.getD k false) ops.size) w (envOf ops W (fun k => listed.getD k false) e0 ops.size) a.tmps → a.defers = df → wpAny P .any ops Q fuel listed a w := by
  have hKs : ∀ j, j < ops.size → mind j = false → K (j + 1) = K j := fun j hj hm => ((hE j ops[j] (Array.getElem?_eq_getElem hj)).2.2 hm).1
  have fin : ∀ (listed : Array Bool) (a : Act) (w : World) (φ : Phi), listed.size = ops.size → Region.ready .any ops listed = [] → Step P φ0 H w0 φ (hAt mind K (fun k => listed.getD k false) ops.size) w → Sim P φ (hAt mind K (fun k => listed.getD k false) ops.size) w → EnvR P φ (hAt mind K (fun k => listed.getD k false) ops.size) w (envOf ops W (fun k => listed.getD k false) e0 ops.size) a.tmps → a.defers = df → Q .normal a w := by
    intro listed a w φ hl hr st hs he hd
    have hall := ready_nil hbk hl hr
    have hh : hAt mind K (fun k => listed.getD k false) ops.size = K ops.size := hAt_pre ops.size hKs fun j hj _ => hall j hj
    rw [hh] at st hs he
    refine hk φ w a st hs ?_ hd
    have : envOf ops W (fun k => listed.getD k false) e0 ops.size = envOf ops W (fun _ => true) e0 ops.size := by
      have go : ∀ n, n ≤ ops.size → envOf ops W (fun k => listed.getD k false) e0 n = envOf ops W (fun _ => true) e0 n := by
        intro n hn
        induction n with
        | zero => rfl
        | succ n ih => simp only [envOf, hall n (by omega), if_true]; rw [ih (by omega)]
      exact go _ (Nat.le_refl _)
    rwa [this] at he
  intro fuel
  induction fuel with
  | zero =>
    intro listed a w φ hl hc hS st hs he hd
    have hr : Region.ready .any ops listed = [] := by
      cases hr : Region.ready .any ops listed with
      | nil => rfl
      | cons i r =>
        have hm := ready_spec (show i ∈ Region.ready .any ops listed by rw [hr]; simp)
        have : i ∈ (List.range ops.size).filter fun k => !listed.getD k false := by
          rw [List.mem_filter, List.mem_range]
          refine ⟨hm.1, ?_⟩
          have h0 := hm.2.1
          rw [Array.getD_eq_getD_getElem?, Array.getElem?_eq_getElem (by omega)] at h0 ⊢
          simpa using h0
        have hnil := List.length_eq_zero_iff.1 (Nat.le_zero.1 hc)
        rw [hnil] at this
        cases this
    exact ⟨hr, fin listed a w φ hl hr st hs he hd⟩
  | succ fuel ih =>
    intro listed a w φ hl hc hS st hs he hd
    refine ⟨fun hr => fin listed a w φ hl hr st hs he hd, fun i hi => ?_⟩
    obtain ⟨hil, hno, o, ho, hpre⟩ := ready_spec hi
    have hno' : listed.getD i false = false := by
      rw [Array.getD_eq_getD_getElem?, Array.getElem?_eq_getElem (by omega)] at hno ⊢
      exact hno
    have hmem : o ∈ ops := Array.mem_of_getElem? ho
    have hcl := closed_set hl hil hS ho hpre
    have hfun : (fun k => (listed.setIfInBounds i true).getD k false) = fun k => listed.getD k false || Nat.beq k i := by
      funext k
      rw [Array.getD_eq_getD_getElem?, Array.getElem?_setIfInBounds]
      by_cases hik : i = k
      · subst hik
        rw [if_pos rfl, if_pos (by omega), Nat.beq_refl]
        simp
      · have hb : Nat.beq k i = false := Bool.eq_false_iff.2 fun h => hik (Nat.eq_of_beq_eq_true h).symm
        rw [if_neg hik, hb, Bool.or_false, ← Array.getD_eq_getD_getElem?]
    have hii : (listed.setIfInBounds i true).getD i false = true := by
      have h4 := congrFun hfun i
      rw [h4, Nat.beq_refl]
      simp
    -- what stands ahead is done
    have hpre2 : ∀ k, k < i → ((Region.before ops).getD i 0).testBit k = true → listed.getD k false = true := fun k hki hb => by
      have h2 := before_closed (fun k => (listed.setIfInBounds i true).getD k false) hcl i k hb hii
      have h4 := congrFun hfun k
      rw [h4] at h2
      have hb2 : Nat.beq k i = false := Bool.eq_false_iff.2 fun h => by have := Nat.eq_of_beq_eq_true h; omega
      simpa [hb2] using h2
    obtain ⟨hstp, hEi, hfree⟩ := hE i o ho
    -- the operation finds its operands
    have hag : ∀ t, t ∈ gnamesOf ops o → (envOf ops W (fun k => listed.getD k false) e0 ops.size)[t]? = (E i)[t]? := fun t ht => by
      rw [env_agreesG htm hS ho hno' hpre2 ht, envOf_lt i ops.size (by omega), hEi]
    have hgd : guardA ops o (envOf ops W (fun k => listed.getD k false) e0 ops.size) = guardA ops o (E i) := by
      unfold guardA
      cases hg : o.guard with
      | none => rfl
      | some p =>
        obtain ⟨j, want⟩ := p
        simp only
        cases hd2 : (ops[j]?).bind (·.dst) with
        | none => rfl
        | some t =>
          have := hag t (List.mem_append_right _ (by rw [hg]; show t ∈ (dstOf ops j).toList; unfold dstOf; rw [hd2]; simp))
          simp only [Option.bind_some, this]
    have hev : ∀ H2, evOp P call o (rho (envOf ops W (fun k => listed.getD k false) e0 ops.size)) H2 = evOp P call o (rho (E i)) H2 := fun H2 =>
      evOp_names (hsel o hmem) fun t ht => hag t (List.mem_append_left _ ht)
    -- the heap, ahead and behind
    have hnow : mind i = true → hAt mind K (fun k => listed.getD k false) ops.size = K i := fun hm => by
      have e1 : hAt mind K (fun k => listed.getD k false) (i + (ops.size - i)) = hAt mind K (fun k => listed.getD k false) i := hAt_skip _ fun k h1 h2 h3 => by
        cases hk2 : listed.getD k false with
        | false => rfl
        | true =>
          by_cases hki : k = i
          · subst hki; rw [hno'] at hk2; cases hk2
          · have hb := hch i k (by omega) (by omega) hm h3
            have := before_closed (fun k => listed.getD k false) hS k i hb hk2
            rw [hno'] at this; cases this
      rw [show i + (ops.size - i) = ops.size by omega] at e1
      rw [e1]
      exact hAt_pre i (fun j hj hmj => hKs j (by omega) hmj) fun j hj hmj => hpre2 j hj (hch j i hj hil hmj hm)
    have hthen : hAt mind K (fun k => (listed.setIfInBounds i true).getD k false) ops.size = if mind i = true then K (i + 1) else hAt mind K (fun k => listed.getD k false) ops.size := by
      by_cases hm : mind i = true
      · rw [if_pos hm, hfun]
        have e1 : hAt mind K (fun k => listed.getD k false || Nat.beq k i) ((i + 1) + (ops.size - (i + 1))) = hAt mind K (fun k => listed.getD k false || Nat.beq k i) (i + 1) := hAt_skip _ fun k h1 h2 h3 => by
          have hb2 : Nat.beq k i = false := Bool.eq_false_iff.2 fun h => by have := Nat.eq_of_beq_eq_true h; omega
          rw [hb2, Bool.or_false]
          cases hk2 : listed.getD k false with
          | false => rfl
          | true =>
            have hb := hch i k (by omega) (by omega) hm h3
            have := before_closed (fun k => listed.getD k false) hS k i hb hk2
            rw [hno'] at this; cases this
        rw [show (i + 1) + (ops.size - (i + 1)) = ops.size by omega] at e1
        rw [e1]
        unfold hAt
        rw [hm, Nat.beq_refl, Bool.or_true]
        rfl
      · rw [if_neg hm, hfun]
        refine (hAt_congr _ fun k _ hmk => ?_).symm
        have hb2 : Nat.beq k i = false := Bool.eq_false_iff.2 fun h => by have := Nat.eq_of_beq_eq_true h; subst this; exact hm hmk
        rw [hb2, Bool.or_false]
    have hadd : envOf ops W (fun k => (listed.setIfInBounds i true).getD k false) e0 ops.size = putE (envOf ops W (fun k => listed.getD k false) e0 ops.size) o.dst (W i) := by
      have hd2 : dstOf ops i = o.dst := by unfold dstOf; rw [ho]; rfl
      rw [hfun, ← hd2]
      refine envOf_add i hno' ops.size hil fun k hik hkn hsk => ?_
      cases hdi : dstOf ops i with
      | none => exact .inl rfl
      | some t =>
        refine .inr fun heq => ?_
        have hko : ops[k]? = some ops[k] := Array.getElem?_eq_getElem hkn
        have hdk : ops[k].dst = some t := by have : dstOf ops k = ops[k].dst := by unfold dstOf; rw [hko]; rfl
                                             rw [← this, ← heq]
        have hb := tempsG_spec htm hko hdi (show t ∈ gnamesOf ops ops[k] from List.mem_append_left _ (by unfold namesOf; rw [hdk]; simp)) (by omega)
        rw [Nat.max_eq_right (by omega), Nat.min_eq_left (by omega)] at hb
        have h3 := before_closed (fun k => listed.getD k false) hS k i hb hsk
        rw [hno'] at h3
        cases h3
    have hlt : ((List.range ops.size).filter fun k => !(listed.setIfInBounds i true).getD k false).length < ((List.range ops.size).filter fun k => !listed.getD k false).length := by
      refine filter_lt _ _ (fun x hx => ?_) _ i (List.mem_range.2 hil) (by simp [hno']) (by simp [hii])
      have h4 := congrFun hfun x
      rw [h4] at hx
      simp at hx
      simp [hx.1]
    unfold wpOp
    rw [ho]
    simp only
    rcases hstp with ⟨hgt, hop⟩ | ⟨hgf, hwu, hks⟩
    · have hw := guard_wanted he (hgd.trans hgt)
      rw [if_pos hw]
      have hop2 : evOp P call o (rho (envOf ops W (fun k => listed.getD k false) e0 ops.size)) (hAt mind K (fun k => listed.getD k false) ops.size) = some (W i, hAt mind K (fun k => (listed.setIfInBounds i true).getD k false) ops.size) := by
        rw [hev, hthen]
        by_cases hm : mind i = true
        · rw [if_pos hm, hnow hm]; exact hop
        · rw [if_neg hm]
          obtain ⟨j, hj, hj2, hj3, hj4⟩ := hAt_some mind K (fun k => listed.getD k false) ops.size
          rw [hj2]
          refine (hfree (Bool.eq_false_iff.2 hm)).2 hgt j hj (fun k hk1 hk2 hk3 => hj3 k (by omega) hk2 (hpre2 k hk1 hk3)) fun k hk1 hk2 hk3 hk4 => ?_
          rcases hj4 with rfl | ⟨m, rfl, hm1, hm2⟩
          · exact Nat.zero_le _
          · refine Nat.le_of_not_lt fun hlt => ?_
            have hkl : listed.getD k false = true := by
              by_cases hkm : k = m
              · subst hkm; exact hm2
              · exact before_closed (fun k => listed.getD k false) hS m k (hch k m (by omega) (by omega) hk3 hm1) hm2
            have := before_closed (fun k => listed.getD k false) hS k i hk4 hkl
            rw [hno'] at this; cases this
      refine .inl (evOp_sound hp hcall hs (fun x => he.rho x) hop2 _ Q fun v' w' ⟨φ', st', hs', hv'⟩ => ?_)
      refine ih _ _ _ φ' (by simpa using hl) (by omega) hcl (st.trans hs0 st') hs' ?_ (by rw [put_defers', hd])
      rw [hadd]
      exact (he.mono st').put o.dst hv'
    · have hw := guard_wanted he (hgd.trans hgf)
      rw [if_neg (by rw [hw]; simp)]
      have hsame : hAt mind K (fun k => (listed.setIfInBounds i true).getD k false) ops.size = hAt mind K (fun k => listed.getD k false) ops.size := by
        rw [hthen]
        by_cases hm : mind i = true
        · rw [if_pos hm, hnow hm, hks]
        · rw [if_neg hm]
      refine ih _ _ _ φ (by simpa using hl) (by omega) hcl (by rw [hsame]; exact st) (by rw [hsame]; exact hs) ?_ (by rw [put_defers', hd])
      rw [hadd, hsame, hwu]
      exact he.put o.dst val_undef

theorem env_keep {E : Nat → List Value} {t : Tmp} (h : ∀ i o, ops[i]? = some o → E (i + 1) = putE (E i) o.dst (W i)) {i : Nat} : ∀ d, i + d ≤ ops.size → (∀ k, i ≤ k → k < ops.size → dstOf ops k ≠ some t) → (E (i + d))[t]? = (E i)[t]?
  | 0, _, _ => rfl
  | d + 1, hd, hn => by
    have hlt : i + d < ops.size := by omega
    have ho : ops[i + d]? = some ops[i + d] := Array.getElem?_eq_getElem hlt
    rw [← Nat.add_assoc, h _ _ ho, putE_get_ne (by have := hn (i + d) (by omega) hlt; unfold dstOf at this; rw [ho] at this; exact this)]
    exact env_keep h d (by omega) hn

theorem many_region (hm : P.follows .mixedOrders = true) (hp : ProgOk P) (hcall : CallOk P call) (hch : CallH call) (hok : manyReg P ops = true) {e e' : List Value} {H' : AH} (h : evOps P call ops ops.toList e H = some (e', H')) (hst : stillAll ops e' H H' = true) :
    ∀ φ w (a : Act) (Q : Exit → Act → World → Prop), Sim P φ H w → EnvR P φ H w e a.tmps → EndOk P φ H w e' H' a.defers (Q .normal) → RegWp P ops true Q a w := by
  intro φ w a Q hs he hk
  unfold manyReg at hok
  simp only [Bool.and_eq_true] at hok
  obtain ⟨⟨⟨⟨htm, hbk⟩, hcn⟩, hld⟩, hsl⟩ := hok
  have hsel : ∀ o, o ∈ ops → ∀ cs b, o.op ≠ .select cs b := fun o ho cs b e => by
    have := List.all_eq_true.1 hsl o (by simpa using ho)
    rw [e] at this
    simp [selB] at this
  obtain ⟨W, E, K, h1, h2, h3, h4, h5⟩ := trace _ _ _ _ _ h
  have hlen : ops.toList.length = ops.size := by simp
  rw [hlen] at h3 h4
  have step : ∀ i o, ops[i]? = some o → Stp P call ops o (E i) (K i) (W i) (K (i + 1)) ∧ E (i + 1) = putE (E i) o.dst (W i) := fun i o ho => h5 i o (by rw [Array.getElem?_toList]; exact ho)
  have hE : ∀ i, i ≤ ops.size → E i = envOf ops W (fun _ => true) e i := fun i hi => trace_env h1 (fun i o ho => (step i o ho).2) hi
  -- the heaps on the way
  have hup : ∀ i d, i + d ≤ ops.size → StepH (K i) (K (i + d)) := fun i d => by
    induction d with
    | zero => intro _; exact .refl
    | succ d ih =>
      intro hd
      have hlt : i + d < ops.size := by omega
      have ho : ops[i + d]? = some ops[i + d] := Array.getElem?_eq_getElem hlt
      refine (ih (by omega)).trans ?_
      rcases (step _ _ ho).1 with ⟨_, hop⟩ | ⟨_, _, hks⟩
      · exact evOp_h hch hop
      · rw [← Nat.add_assoc, hks]; exact .refl
  have hfrom : ∀ i, i ≤ ops.size → WfH (K i) ∧ HStep H (K i) := fun i hi => by
    have := hup 0 i (by omega)
    rw [h2, Nat.zero_add] at this
    exact this hs.wf
  have hto : ∀ i, i ≤ ops.size → HStep (K i) H' := fun i hi => by
    have := hup i (ops.size - i) (by omega)
    rw [show i + (ops.size - i) = ops.size by omega, h4] at this
    exact (this (hfrom i hi).1).2
  have hload : ∀ i o t x, ops[i]? = some o → o.op = .load t x → ∀ ad, rho (E i) x = .pointer (some ad) → ∃ b, ∀ j, j ≤ ops.size → (K j).blk ad.block = some b ∧ (K j).live ad.block b = true := fun i o t x ho hx ad had => by
    have hil : i < ops.size := (Array.getElem?_eq_some_iff.1 ho).1
    have hrho : rho e' x = rho (E i) x := by
      cases x with
      | tmp tm =>
        have hl2 := List.all_eq_true.1 hld i (List.mem_range.2 hil)
        rw [ho] at hl2
        simp only [hx] at hl2
        have := env_keep (t := tm) (fun i o ho => (step i o ho).2) (i := i) (ops.size - i) (by omega) fun k hk1 hk2 hd => by
          have hl3 := List.all_eq_true.1 hl2 k (List.mem_range.2 hk2)
          rw [hd] at hl3
          simp at hl3
          omega
        rw [show i + (ops.size - i) = ops.size by omega, h3] at this
        show e'.getD tm undef = (E i).getD tm undef
        rw [List.getD_eq_getElem?_getD, List.getD_eq_getElem?_getD, this]
      | _ => rfl
    have hst2 := List.all_eq_true.1 hst o (by simpa using Array.mem_of_getElem? ho)
    rw [hx] at hst2
    simp only [hrho, had, stillB] at hst2
    cases hb : H.blk ad.block with
    | none => rw [hb] at hst2; cases hst2
    | some b =>
      cases hb2 : H'.blk ad.block with
      | none => rw [hb, hb2] at hst2; cases hst2
      | some b' =>
        rw [hb, hb2] at hst2
        simp only [Bool.and_eq_true] at hst2
        exact ⟨b, fun j hj => still_mid hs.wf (hfrom j hj).2 (hto j hj) hb hb2 (Nat.eq_of_beq_eq_true hst2.1) hst2.2⟩
  have hB : RowKit.Below w.heap.size w { w with drawn := w.drawn + 1 } := (RowKit.Below.refl _ w).drew
  have hs1 := sim_below hs hB
  have st1 := step_below hs hB
  have hf0 : ∀ k, (Array.replicate ops.size false).getD k false = false := fun k => by
    rw [Array.getD_eq_getD_getElem?, Array.getElem?_replicate]; split <;> rfl
  have hh0 : hAt (mindB P ops) K (fun k => (Array.replicate ops.size false).getD k false) ops.size = H := by
    have := hAt_skip (mind := mindB P ops) (K := K) (S := fun k => (Array.replicate ops.size false).getD k false) (i := 0) ops.size fun k _ _ _ => hf0 k
    rw [Nat.zero_add] at this
    rw [this]; exact h2
  refine regWp_any hm (many_any hp hcall htm hbk hsel (mind := mindB P ops) (E := E) (W := W) (K := K) (e0 := e) (φ0 := φ) (w0 := w) (df := a.defers) h2 (fun i j hij hj hmi hmj => ?_) (fun i o ho => ⟨(step i o ho).1, hE i (by have := (Array.getElem?_eq_some_iff.1 ho).1; omega), fun hmi => ?_⟩) hs (fun φ' w' a' st hs' he' hd => ?_) ops.size _ a _ φ (by simp) ?_ ?_ ?_ ?_ ?_ rfl)
  · have h6 := List.all_eq_true.1 hcn j (List.mem_range.2 hj)
    rw [hmj] at h6
    have h7 := List.all_eq_true.1 h6 i (List.mem_range.2 hij)
    rw [hmi] at h7
    exact h7
  · unfold mindB at hmi
    rw [ho] at hmi
    simp only at hmi
    have hcase : freeB P o.op = true ∨ loadB o.op = true := by
      cases hf : freeB P o.op with
      | true => exact .inl rfl
      | false =>
        cases hl : loadB o.op with
        | true => exact .inr rfl
        | false => rw [hf, hl] at hmi; cases hmi
    have hstp := (step i o ho).1
    rcases hcase with hf | hl
    · obtain ⟨r, hr⟩ := evOp_free (call := call) (ρ := rho (E i)) hf
      rcases hstp with ⟨hg, hop⟩ | ⟨hg, _, hks⟩
      · rw [hr] at hop
        cases r with
        | none => cases hop
        | some y =>
          simp only [Option.map_some, Option.some.injEq, Prod.mk.injEq] at hop
          exact ⟨hop.2.symm, fun _ j _ _ _ => by rw [hr, ← hop.1]; rfl⟩
      · exact ⟨hks, fun hg2 => by rw [hg] at hg2; cases hg2⟩
    · have hil : i < ops.size := (Array.getElem?_eq_some_iff.1 ho).1
      rcases hstp with ⟨hg, hop⟩ | ⟨hg, _, hks⟩
      · cases hx : o.op with
        | load t x =>
          have key : ∀ j, j ≤ ops.size → evOp P call o (rho (E i)) (K j) = some (W i, K j) ∧ K (i + 1) = K i := fun j hj =>
            load_same hx hop fun ad had => by
              obtain ⟨b, hb⟩ := hload i o t x ho hx ad had
              exact ⟨b, (hb i (by omega)).1, (hb i (by omega)).2, (hb j hj).1, (hb j hj).2⟩
          exact ⟨(key i (by omega)).2, fun _ j hj _ _ => (key j hj).1⟩
        | _ => rw [hx] at hl; cases hl
      · exact ⟨hks, fun hg2 => by rw [hg] at hg2; cases hg2⟩
  · rw [h4] at st hs' he'
    rw [← hE _ (Nat.le_refl _), h3] at he'
    exact hk φ' w' a' st hs' he' hd
  · exact Nat.le_trans (List.length_filter_le _ _) (by simp)
  · intro j o _ hj
    rw [hf0] at hj; cases hj
  · rw [hh0]; exact st1
  · rw [hh0]; exact hs1
  · have : ∀ n, envOf ops W (fun k => (Array.replicate ops.size false).getD k false) e n = e := by
      intro n
      induction n with
      | zero => rfl
      | succ n ih =>
        have hf := hf0 n
        simp only [envOf, hf, Bool.false_eq_true, if_false]
        exact ih
    rw [this, hh0]
    exact he.mono st1

theorem evTr_at {E : Nat → List Value} {K : Nat → AH} : ∀ (l : List Oper) (k : Nat) (e : List Value) (H : AH) (s : List (List Value × AH)), evTr P call ops l e H = some s →
    (∀ i o, l[i]? = some o → Stp P call ops o (E (k + i)) (K (k + i)) (W (k + i)) (K (k + i + 1)) ∧ E (k + i + 1) = putE (E (k + i)) o.dst (W (k + i))) → E k = e → K k = H → ∀ i, i ≤ l.length → s[i]? = some (E (k + i), K (k + i))
  | [], k, e, H, s, h, _, he, hk, i, hi => by
    simp only [evTr] at h
    cases h
    have : i = 0 := by simpa using hi
    subst this
    simp [he, hk]
  | o :: r, k, e, H, s, h, hst, he, hk, i, hi => by
    obtain ⟨h0, h0'⟩ := hst 0 o rfl
    rw [Nat.add_zero] at h0 h0'
    have tl : ∀ s' v H1, evTr P call ops r (putE e o.dst v) H1 = some s' → W k = v → K (k + 1) = H1 → s = (e, H) :: s' → s[i]? = some (E (k + i), K (k + i)) := fun s' v H1 hs' hv hk1 hss => by
      subst hss
      cases i with
      | zero => simp [he, hk]
      | succ i =>
        have := evTr_at r (k + 1) _ _ s' hs' (fun j o ho => by
          have := hst (j + 1) o (by simpa using ho)
          rw [show k + 1 + j = k + (j + 1) by omega]
          exact this) (by rw [h0', Nat.add_zero, he, hv]) hk1 i (by simpa using hi)
        rw [show k + 1 + i = k + (i + 1) by omega] at this
        simpa using this
    unfold evTr at h
    rcases h0 with ⟨hg, hop⟩ | ⟨hg, hw, hks⟩
    · rw [he] at hg
      rw [he, hk] at hop
      rw [hg, hop] at h
      simp only at h
      cases h2 : evTr P call ops r (putE e o.dst (W k)) (K (k + 1)) with
      | none => rw [h2] at h; cases h
      | some s' =>
        rw [h2] at h
        simp only [Option.map_some, Option.some.injEq] at h
        exact tl s' _ _ h2 rfl rfl h.symm
    · rw [he] at hg
      rw [hg] at h
      simp only at h
      cases h2 : evTr P call ops r (putE e o.dst undef) H with
      | none => rw [h2] at h; cases h
      | some s' =>
        rw [h2] at h
        simp only [Option.map_some, Option.some.injEq] at h
        exact tl s' _ _ h2 hw (hks.trans hk) h.symm

/-- Of a call: some functions leave the heap alone, whatever lies in it. -/
def CallFlat (ff : FuncId → Bool) (call : CallA) : Prop := ∀ f args, ff f = true → ∃ r : Option Value, ∀ H, call f args H = r.map (·, H)
theorem evOp_flatCall {ff : FuncId → Bool} {o : Oper} {ρ : Operand → Value} (hfl : CallFlat ff call) (hρ : ∀ f, ρ (.func f) = .func (.func f) #[] #[]) (h : flatCall ff o.op = true) : ∃ r : Option Value, ∀ H, evOp P call o ρ H = r.map (·, H) := by
  unfold flatCall at h
  split at h
  case h_2 => cases h
  rename_i c ho
  split at h
  case h_2 => cases h
  rename_i f hc
  obtain ⟨r, hr⟩ := hfl f (c.args.toList.map ρ ++ (#[] : Array Value).toList) h
  refine ⟨r, fun H => ?_⟩
  unfold evOp
  simp only [ho]
  unfold callA
  simp only [hc, hρ]
  exact hr H

theorem winLo_spec (mind : Nat → Bool) (ops : Array Oper) (i : Nat) : winLo mind ops i ≤ i ∧ ∀ j, (∀ k, k < i → mind k = true → ((Region.before ops).getD i 0).testBit k = true → k < j) → winLo mind ops i ≤ j := by
  unfold winLo
  simp only
  generalize hb : (Region.before ops).getD i 0 = b
  have go : ∀ (l : List Nat) (m0 : Nat) (p : Nat → Prop), p m0 → (∀ k, k ∈ l → mind k = true → b.testBit k = true → p (k + 1)) → p (l.foldl (fun m k => if (mind k && b.testBit k) = true then k + 1 else m) m0) := by
    intro l
    induction l with
    | nil => intro m0 p h _; exact h
    | cons k l ih =>
      intro m0 p h hl
      rw [List.foldl_cons]
      refine ih _ p ?_ fun k hk => hl k (List.mem_cons_of_mem _ hk)
      by_cases hc : (mind k && b.testBit k) = true
      · rw [if_pos hc]
        rw [Bool.and_eq_true] at hc
        exact hl k List.mem_cons_self hc.1 hc.2
      · rw [if_neg hc]; exact h
  refine ⟨go _ _ (fun m => m ≤ i) (Nat.zero_le _) fun k hk _ _ => ?_, fun j hj => go _ _ (fun m => m ≤ j) (Nat.zero_le _) fun k hk h1 h2 => ?_⟩
  · rw [List.mem_range] at hk; omega
  · rw [List.mem_range] at hk; have := hj k hk h1 h2; omega

theorem winHi_spec (mind : Nat → Bool) (ops : Array Oper) (i : Nat) : winHi mind ops i ≤ ops.size ∧ ∀ j, j ≤ ops.size → (∀ k, i < k → k < ops.size → mind k = true → ((Region.before ops).getD k 0).testBit i = true → j ≤ k) → j ≤ winHi mind ops i := by
  unfold winHi
  simp only
  have go : ∀ (l : List Nat) (m0 : Nat) (p : Nat → Prop), p m0 → (∀ k, k ∈ l → i < k → mind k = true → ((Region.before ops).getD k 0).testBit i = true → p k) → p (l.foldr (fun k m => if (Nat.blt i k && mind k && ((Region.before ops).getD k 0).testBit i) = true then k else m) m0) := by
    intro l
    induction l with
    | nil => intro m0 p h _; exact h
    | cons k l ih =>
      intro m0 p h hl
      rw [List.foldr_cons]
      by_cases hc : (Nat.blt i k && mind k && ((Region.before ops).getD k 0).testBit i) = true
      · rw [if_pos hc]
        simp only [Bool.and_eq_true] at hc
        exact hl k List.mem_cons_self (by simpa using hc.1.1) hc.1.2 hc.2
      · rw [if_neg hc]; exact ih _ p h fun k hk => hl k (List.mem_cons_of_mem _ hk)
  refine ⟨go _ _ (fun m => m ≤ ops.size) (Nat.le_refl _) fun k hk _ _ _ => ?_, fun j hj hall => go _ _ (fun m => j ≤ m) hj fun k hk h1 h2 h3 => ?_⟩
  · rw [List.mem_range] at hk; omega
  · rw [List.mem_range] at hk; exact hall k h1 hk h2 h3

theorem many_regionW (hm : P.follows .mixedOrders = true) (hp : ProgOk P) (hcall : CallOk P call) (hch : CallH call) {ff : FuncId → Bool} (hfl : CallFlat ff call) (hok : manyF P ff ops = true) {e e' : List Value} {H' : AH} (h : evOps P call ops ops.toList e H = some (e', H')) (hst : noLoads ops = true ∨ stillW P call (mindF P ff ops) ops e H = true) :
    ∀ φ w (a : Act) (Q : Exit → Act → World → Prop), Sim P φ H w → EnvR P φ H w e a.tmps → EndOk P φ H w e' H' a.defers (Q .normal) → RegWp P ops true Q a w := by
  intro φ w a Q hs he hk
  unfold manyF at hok
  simp only [Bool.and_eq_true] at hok
  obtain ⟨⟨⟨⟨htm, hbk⟩, hcn⟩, hld⟩, hsl⟩ := hok
  have hsel : ∀ o, o ∈ ops → ∀ cs b, o.op ≠ .select cs b := fun o ho cs b e => by
    have := List.all_eq_true.1 hsl o (by simpa using ho)
    rw [e] at this
    simp [selB] at this
  obtain ⟨W, E, K, h1, h2, h3, h4, h5⟩ := trace _ _ _ _ _ h
  have hlen : ops.toList.length = ops.size := by simp
  rw [hlen] at h3 h4
  have step : ∀ i o, ops[i]? = some o → Stp P call ops o (E i) (K i) (W i) (K (i + 1)) ∧ E (i + 1) = putE (E i) o.dst (W i) := fun i o ho => h5 i o (by rw [Array.getElem?_toList]; exact ho)
  have hE : ∀ i, i ≤ ops.size → E i = envOf ops W (fun _ => true) e i := fun i hi => trace_env h1 (fun i o ho => (step i o ho).2) hi
  -- the heaps on the way
  have hup : ∀ i d, i + d ≤ ops.size → StepH (K i) (K (i + d)) := fun i d => by
    induction d with
    | zero => intro _; exact .refl
    | succ d ih =>
      intro hd
      have hlt : i + d < ops.size := by omega
      have ho : ops[i + d]? = some ops[i + d] := Array.getElem?_eq_getElem hlt
      refine (ih (by omega)).trans ?_
      rcases (step _ _ ho).1 with ⟨_, hop⟩ | ⟨_, _, hks⟩
      · exact evOp_h hch hop
      · rw [← Nat.add_assoc, hks]; exact .refl
  have hfrom : ∀ i, i ≤ ops.size → WfH (K i) ∧ HStep H (K i) := fun i hi => by
    have := hup 0 i (by omega)
    rw [h2, Nat.zero_add] at this
    exact this hs.wf
  have hto : ∀ i, i ≤ ops.size → HStep (K i) H' := fun i hi => by
    have := hup i (ops.size - i) (by omega)
    rw [show i + (ops.size - i) = ops.size by omega, h4] at this
    exact (this (hfrom i hi).1).2
  have hbt : ∀ i d, i + d ≤ ops.size → HStep (K i) (K (i + d)) := fun i d hd => (hup i d hd (hfrom i (by omega)).1).2
  have hbt2 : ∀ i j, i ≤ j → j ≤ ops.size → HStep (K i) (K j) := fun i j hij hj => by
    have := hbt i (j - i) (by omega)
    rwa [show i + (j - i) = j by omega] at this
  have hload : ∀ i o t x, ops[i]? = some o → o.op = .load t x → ∀ ad, rho (E i) x = .pointer (some ad) → ∃ b, ∀ j, j ≤ ops.size → (∀ k, k < i → mindF P ff ops k = true → ((Region.before ops).getD i 0).testBit k = true → k < j) → (∀ k, i < k → k < ops.size → mindF P ff ops k = true → ((Region.before ops).getD k 0).testBit i = true → j ≤ k) → (K j).blk ad.block = some b ∧ (K j).live ad.block b = true := fun i o t x ho hx ad had => by
    rcases hst with hnl | hst
    · have := List.all_eq_true.1 hnl o (by simpa using Array.mem_of_getElem? ho)
      rw [hx] at this; simp [loadB, lookB] at this
    unfold stillW at hst
    cases hs2 : evTr P call ops ops.toList e H with
    | none => rw [hs2] at hst; cases hst
    | some s =>
    rw [hs2] at hst
    simp only at hst
    have hsat : ∀ i, i ≤ ops.size → s[i]? = some (E i, K i) := fun i hi => by
      have := evTr_at ops.toList 0 e H s hs2 (fun i o ho => by rw [Nat.zero_add]; exact h5 i o ho) h1 h2 i (by simpa using hi)
      rwa [Nat.zero_add] at this
    have hil : i < ops.size := (Array.getElem?_eq_some_iff.1 ho).1
    have hst2 := List.all_eq_true.1 hst i (List.mem_range.2 hil)
    obtain ⟨lo1, lo2⟩ := winLo_spec (mindF P ff ops) ops i
    obtain ⟨hi1, hi2⟩ := winHi_spec (mindF P ff ops) ops i
    rw [ho] at hst2
    simp only [hx, hsat i (by omega), hsat (winLo (mindF P ff ops) ops i) (by omega), hsat (winHi (mindF P ff ops) ops i) hi1, had, stillB] at hst2
    cases hb : (K (winLo (mindF P ff ops) ops i)).blk ad.block with
    | none => rw [hb] at hst2; cases hst2
    | some b =>
      cases hb2 : (K (winHi (mindF P ff ops) ops i)).blk ad.block with
      | none => rw [hb, hb2] at hst2; cases hst2
      | some b' =>
        rw [hb, hb2] at hst2
        simp only [Bool.and_eq_true] at hst2
        refine ⟨b, fun j hj hj1 hj2 => ?_⟩
        have g1 := lo2 j hj1
        have g2 := hi2 j hj hj2
        exact still_mid (hfrom _ (by omega)).1 (hbt2 _ _ g1 hj) (hbt2 _ _ g2 hi1) hb hb2 (Nat.eq_of_beq_eq_true hst2.1) hst2.2
  have hlook : ∀ i o t x k ok, ops[i]? = some o → o.op = .lookup t x k ok → ∀ ad, rho (E i) x = .map (some ad) → ∃ b, ∀ j, j ≤ ops.size → (∀ k, k < i → mindF P ff ops k = true → ((Region.before ops).getD i 0).testBit k = true → k < j) → (∀ k, i < k → k < ops.size → mindF P ff ops k = true → ((Region.before ops).getD k 0).testBit i = true → j ≤ k) → (K j).blk ad = some b ∧ (K j).live ad b = true := fun i o t x k ok ho hx ad had => by
    rcases hst with hnl | hst
    · have := List.all_eq_true.1 hnl o (by simpa using Array.mem_of_getElem? ho)
      rw [hx] at this; simp [loadB, lookB] at this
    unfold stillW at hst
    cases hs2 : evTr P call ops ops.toList e H with
    | none => rw [hs2] at hst; cases hst
    | some s =>
    rw [hs2] at hst
    simp only at hst
    have hsat : ∀ i, i ≤ ops.size → s[i]? = some (E i, K i) := fun i hi => by
      have := evTr_at ops.toList 0 e H s hs2 (fun i o ho => by rw [Nat.zero_add]; exact h5 i o ho) h1 h2 i (by simpa using hi)
      rwa [Nat.zero_add] at this
    have hil : i < ops.size := (Array.getElem?_eq_some_iff.1 ho).1
    have hst2 := List.all_eq_true.1 hst i (List.mem_range.2 hil)
    obtain ⟨lo1, lo2⟩ := winLo_spec (mindF P ff ops) ops i
    obtain ⟨hi1, hi2⟩ := winHi_spec (mindF P ff ops) ops i
    rw [ho] at hst2
    simp only [hx, hsat i (by omega), hsat (winLo (mindF P ff ops) ops i) (by omega), hsat (winHi (mindF P ff ops) ops i) hi1, had, stillB] at hst2
    cases hb : (K (winLo (mindF P ff ops) ops i)).blk ad with
    | none => rw [hb] at hst2; cases hst2
    | some b =>
      cases hb2 : (K (winHi (mindF P ff ops) ops i)).blk ad with
      | none => rw [hb, hb2] at hst2; cases hst2
      | some b' =>
        rw [hb, hb2] at hst2
        simp only [Bool.and_eq_true] at hst2
        refine ⟨b, fun j hj hj1 hj2 => ?_⟩
        have g1 := lo2 j hj1
        have g2 := hi2 j hj hj2
        exact still_mid (hfrom _ (by omega)).1 (hbt2 _ _ g1 hj) (hbt2 _ _ g2 hi1) hb hb2 (Nat.eq_of_beq_eq_true hst2.1) hst2.2
  have hB : RowKit.Below w.heap.size w { w with drawn := w.drawn + 1 } := (RowKit.Below.refl _ w).drew
  have hs1 := sim_below hs hB
  have st1 := step_below hs hB
  have hf0 : ∀ k, (Array.replicate ops.size false).getD k false = false := fun k => by
    rw [Array.getD_eq_getD_getElem?, Array.getElem?_replicate]; split <;> rfl
  have hh0 : hAt (mindF P ff ops) K (fun k => (Array.replicate ops.size false).getD k false) ops.size = H := by
    have := hAt_skip (mind := mindF P ff ops) (K := K) (S := fun k => (Array.replicate ops.size false).getD k false) (i := 0) ops.size fun k _ _ _ => hf0 k
    rw [Nat.zero_add] at this
    rw [this]; exact h2
  refine regWp_any hm (many_any hp hcall htm hbk hsel (mind := mindF P ff ops) (E := E) (W := W) (K := K) (e0 := e) (φ0 := φ) (w0 := w) (df := a.defers) h2 (fun i j hij hj hmi hmj => ?_) (fun i o ho => ⟨(step i o ho).1, hE i (by have := (Array.getElem?_eq_some_iff.1 ho).1; omega), fun hmi => ?_⟩) hs (fun φ' w' a' st hs' he' hd => ?_) ops.size _ a _ φ (by simp) ?_ ?_ ?_ ?_ ?_ rfl)
  · have h6 := List.all_eq_true.1 hcn j (List.mem_range.2 hj)
    rw [hmj] at h6
    have h7 := List.all_eq_true.1 h6 i (List.mem_range.2 hij)
    rw [hmi] at h7
    exact h7
  · unfold mindF at hmi
    rw [ho] at hmi
    simp only at hmi
    have hcase : freeB P o.op = true ∨ loadB o.op = true ∨ lookB o.op = true ∨ flatCall ff o.op = true := by
      cases hf : freeB P o.op with
      | true => exact .inl rfl
      | false =>
        cases hl : loadB o.op with
        | true => exact .inr (.inl rfl)
        | false =>
          cases hlk : lookB o.op with
          | true => exact .inr (.inr (.inl rfl))
          | false =>
            cases hc : flatCall ff o.op with
            | true => exact .inr (.inr (.inr rfl))
            | false => rw [hf, hl, hlk, hc] at hmi; cases hmi
    have hstp := (step i o ho).1
    rcases hcase with hf | hl | hlk | hfc
    rotate_left 2
    · rcases hstp with ⟨hg, hop⟩ | ⟨hg, _, hks⟩
      · cases hx : o.op with
        | lookup t x k ok =>
          have key : ∀ j, j ≤ ops.size → (∀ k, k < i → mindF P ff ops k = true → ((Region.before ops).getD i 0).testBit k = true → k < j) → (∀ k, i < k → k < ops.size → mindF P ff ops k = true → ((Region.before ops).getD k 0).testBit i = true → j ≤ k) → evOp P call o (rho (E i)) (K j) = some (W i, K j) ∧ K (i + 1) = K i := fun j hj hj1 hj2 =>
            look_same hx hop fun ad had => by
              have hil : i < ops.size := (Array.getElem?_eq_some_iff.1 ho).1
              obtain ⟨b, hb⟩ := hlook i o t x k ok ho hx ad had
              have a1 := hb i (by omega) (fun k hk _ _ => hk) (fun k hk _ _ _ => by omega)
              have a2 := hb j hj hj1 hj2
              exact ⟨b, a1.1, a1.2, a2.1, a2.2⟩
          have hil : i < ops.size := (Array.getElem?_eq_some_iff.1 ho).1
          exact ⟨(key i (by omega) (fun k hk _ _ => hk) (fun k hk _ _ _ => by omega)).2, fun _ j hj hj1 hj2 => (key j hj hj1 hj2).1⟩
        | _ => rw [hx] at hlk; cases hlk
      · exact ⟨hks, fun hg2 => by rw [hg] at hg2; cases hg2⟩
    · obtain ⟨r, hr⟩ := evOp_flatCall (ρ := rho (E i)) hfl (fun f => rfl) hfc
      rcases hstp with ⟨hg, hop⟩ | ⟨hg, _, hks⟩
      · rw [hr] at hop
        cases r with
        | none => cases hop
        | some y =>
          simp only [Option.map_some, Option.some.injEq, Prod.mk.injEq] at hop
          exact ⟨hop.2.symm, fun _ j _ _ _ => by rw [hr, ← hop.1]; rfl⟩
      · exact ⟨hks, fun hg2 => by rw [hg] at hg2; cases hg2⟩
    · obtain ⟨r, hr⟩ := evOp_free (call := call) (ρ := rho (E i)) hf
      rcases hstp with ⟨hg, hop⟩ | ⟨hg, _, hks⟩
      · rw [hr] at hop
        cases r with
        | none => cases hop
        | some y =>
          simp only [Option.map_some, Option.some.injEq, Prod.mk.injEq] at hop
          exact ⟨hop.2.symm, fun _ j _ _ _ => by rw [hr, ← hop.1]; rfl⟩
      · exact ⟨hks, fun hg2 => by rw [hg] at hg2; cases hg2⟩
    · have hil : i < ops.size := (Array.getElem?_eq_some_iff.1 ho).1
      rcases hstp with ⟨hg, hop⟩ | ⟨hg, _, hks⟩
      · cases hx : o.op with
        | load t x =>
          obtain ⟨lo1, lo2⟩ := winLo_spec (mindF P ff ops) ops i
          obtain ⟨hi1, hi2⟩ := winHi_spec (mindF P ff ops) ops i
          have key : ∀ j, j ≤ ops.size → (∀ k, k < i → mindF P ff ops k = true → ((Region.before ops).getD i 0).testBit k = true → k < j) → (∀ k, i < k → k < ops.size → mindF P ff ops k = true → ((Region.before ops).getD k 0).testBit i = true → j ≤ k) → evOp P call o (rho (E i)) (K j) = some (W i, K j) ∧ K (i + 1) = K i := fun j hj hj1 hj2 =>
            load_same hx hop fun ad had => by
              obtain ⟨b, hb⟩ := hload i o t x ho hx ad had
              have a1 := hb i (by omega) (fun k hk _ _ => hk) (fun k hk _ _ _ => by omega)
              have a2 := hb j hj hj1 hj2
              exact ⟨b, a1.1, a1.2, a2.1, a2.2⟩
          exact ⟨(key i (by omega) (fun k hk _ _ => hk) (fun k hk _ _ _ => by omega)).2, fun _ j hj hj1 hj2 => (key j hj hj1 hj2).1⟩
        | _ => rw [hx] at hl; cases hl
      · exact ⟨hks, fun hg2 => by rw [hg] at hg2; cases hg2⟩
  · rw [h4] at st hs' he'
    rw [← hE _ (Nat.le_refl _), h3] at he'
    exact hk φ' w' a' st hs' he' hd
  · exact Nat.le_trans (List.length_filter_le _ _) (by simp)
  · intro j o _ hj
    rw [hf0] at hj; cases hj
  · rw [hh0]; exact st1
  · rw [hh0]; exact hs1
  · have : ∀ n, envOf ops W (fun k => (Array.replicate ops.size false).getD k false) e n = e := by
      intro n
      induction n with
      | zero => rfl
      | succ n ih =>
        have hf := hf0 n
        simp only [envOf, hf, Bool.false_eq_true, if_false]
        exact ih
    rw [this, hh0]
    exact he.mono st1
end
end Go.Proofs.YtenolmhnmcjndaaGreatDoor.Ev
namespace Go.Proofs.YtenolmhnmcjndaaGreatDoor.Ev
set_option linter.unusedVariables false
set_option linter.unusedSimpArgs false
open Go

section
variable {P : Program} {φ φ' : Phi} {H H' : AH} {w w' : World}

/-- What values need to stay what they are. -/
structure Wk (φ : Phi) (H : AH) (w : World) (φ' : Phi) (H' : AH) (w' : World) : Prop where
  h : HStep H H'
  ext : ∀ c x, φ c = some x → φ' c = some x
  shape : ∀ (r : Nat) (C : Array Value) (e : TypeId) (fr : Nat × Nat), w.heap[r]? = some (Obj.cells C e fr) → ∃ (C' : Array Value) (fr' : Nat × Nat), w'.heap[r]? = some (Obj.cells C' e fr') ∧ C'.size = C.size

theorem AddrR.wk (s : Wk φ H w φ' H' w') {p q : Addr} (h : AddrR φ H p q) : AddrR φ' H' p q := by
  rcases h with h | ⟨h1, h2, δ, h3, h4⟩
  · exact .inl (h.mono s.h)
  · exact .inr ⟨h1, h2, δ, s.ext _ _ h3, h4⟩
theorem SliceR.wk (s : Wk φ H w φ' H' w') {p q : Addr} {n c c' : Nat} (h : SliceR P φ H w p q n c c') : SliceR P φ' H' w' p q n c c' := by
  rcases h with h | h | ⟨h1, h2, δ, C, e, fr, b, h3, h4, h5, h6, h7, h8, h9⟩ | ⟨h1, h2, h3, h4, δ, h5, h6⟩
  · exact .inl (h.mono s.h)
  · exact .inr (.inl ⟨h.1, h.2.1, h.2.2.1, h.2.2.2.imp fun _ h => s.ext _ _ h⟩)
  · obtain ⟨b', hb', _, hex, hsh, _, _⟩ := s.h.blk _ b h5
    rw [h6] at hsh
    cases ho : b'.obj with
    | cells C2 e2 fr2 =>
      rw [ho] at hsh
      obtain ⟨hs, rfl⟩ := hsh
      refine .inr (.inr (.inl ⟨h1, h2, δ, C2, e, fr2, b', s.ext _ _ h3, h4, hb', ho, h7, hs ▸ h8, ?_⟩))
      rcases h9 with h9 | ⟨g1, g2, g3, C', fr', g4, g5⟩
      · exact .inl h9
      · obtain ⟨C3, fr3, k1, k2⟩ := s.shape _ _ _ _ g4
        exact .inr ⟨hex ▸ g1, hs ▸ g2, g3, C3, fr3, k1, k2 ▸ g5⟩
    | _ => rw [ho] at hsh; simp [shapeSame] at hsh
  · exact .inr (.inr (.inr ⟨h1, h2, h3, h4, δ, s.ext _ _ h5, h6⟩))
theorem AtomR.wk (s : Wk φ H w φ' H' w') {a b : Value} (h : AtomR P φ H w a b) : AtomR P φ' H' w' a b := by
  cases h with
  | flat h => exact .flat h
  | ptr h => exact .ptr (h.wk s)
  | slice h => exact .slice (h.wk s)
  | map h => exact .map (h.imp (·.mono s.h) (s.ext _ _))
theorem CellR.wk (s : Wk φ H w φ' H' w') {a b : Value} (h : CellR P φ H w a b) : CellR P φ' H' w' a b := by
  cases h with
  | atom h => exact .atom (h.wk s)
  | iface h => exact .iface (h.wk s)
  | ifaceAgg h => exact .ifaceAgg h
  | func h => exact .func (h.imp fun _ _ h => h.wk s)
theorem PartR.wk (s : Wk φ H w φ' H' w') {a b : Value} (h : PartR P φ H w a b) : PartR P φ' H' w' a b := by
  cases h with
  | junk => exact .junk
  | cell h => exact .cell (h.wk s)
  | agg h => exact .agg (h.imp fun _ _ h => h.wk s)
theorem ValR.wk (s : Wk φ H w φ' H' w') {a b : Value} (h : ValR P φ H w a b) : ValR P φ' H' w' a b := by
  cases h with
  | part h => exact .part (h.wk s)
  | tuple h => exact .tuple (h.imp fun _ _ h => h.wk s)

/-- A block of the real heap that nobody held becomes the newest of the evaluator's. -/
theorem wk_bind (hs : Sim P φ H w) {r : Nat} {o : Obj} {ex : Bool} : Wk φ H w (upd φ H.next (r, 0)) (H.alloc o ex) w where
  h := HStep.alloc hs.wf
  ext := fun c x h => by rw [upd_ne (by have := hs.lt h; omega)]; exact h
  shape := fun r C e fr h => ⟨C, fr, h, rfl⟩
theorem step_bind {φ0 : Phi} {H0 : AH} {w0 : World} (hs0 : Sim P φ0 H0 w0) (s : Step P φ0 H0 w0 φ H w) (hw : WfH H) {r : Nat} {o : Obj} {ex : Bool} (hr : w0.heap.size ≤ r) : Step P φ0 H0 w0 (upd φ H.next (r, 0)) (H.alloc o ex) w where
  h := s.h.trans (HStep.alloc hw)
  ext := fun c x h => by
    have h1 := hs0.lt h
    have h2 := s.h.next
    rw [upd_ne (by omega)]; exact s.ext c x h
  old := fun c hc h => by
    have h2 := s.h.next
    rw [upd_ne (by omega)]; exact s.old c hc h
  os := s.os
  tape := s.tape
  output := s.output
  size := s.size
  shape := s.shape
  frame := fun k hk hall => s.frame k hk fun c δ b h1 h2 => by
    rcases hall c δ b h1 h2 with h | ⟨h3, b', h4, h5⟩
    · exact .inl h
    · have h6 := hs0.lt h1
      have h7 := s.h.next
      rw [blk_alloc, if_neg (by omega)] at h4
      exact .inr ⟨h3, b', h4, h5⟩
  new := fun c k δ h h' hk => by
    unfold upd at h'
    split at h'
    · obtain h' := Option.some.inj h'; simp only [Prod.mk.injEq] at h'; omega
    · exact s.new c k δ h h' hk
  heads := fun c b hb hn => s.heads c b hb hn
theorem sim_bind (hs : Sim P φ H w) {C : Array Value} {e : TypeId} {r : Nat} (hr : w.heap[r]? = some (.cells C e (0, 0))) (hno : ∀ c δ, φ c ≠ some (r, δ)) (hfx : r ∉ fixedBlocks)
    (hC : ∀ (i : Nat) (x y : Value), C[i]? = some x → C[i]? = some y → CellR P φ H w x y) : Sim P (upd φ H.next (r, 0)) (H.alloc (.cells C e (0, 0)) true) w := by
  have hst := wk_bind (o := .cells C e (0, 0)) (ex := true) hs (r := r)
  have hcase : ∀ c k δ, upd φ H.next (r, 0) c = some (k, δ) → (c = H.next ∧ k = r ∧ δ = 0) ∨ (c ≠ H.next ∧ φ c = some (k, δ) ∧ k ≠ r) := fun c k δ h => by
    unfold upd at h; split at h
    · rename_i e; obtain h := Option.some.inj h; simp only [Prod.mk.injEq] at h; exact .inl ⟨e, h.1.symm, h.2.symm⟩
    · rename_i e; exact .inr ⟨e, h, fun e2 => hno c δ (e2 ▸ h)⟩
  have hblk : ∀ c, c ≠ H.next → (H.alloc (.cells C e (0, 0)) true).blk c = H.blk c := fun c hc => by rw [blk_alloc, if_neg hc]
  constructor
  case wf => exact hs.wf.alloc ⟨rfl, rfl⟩
  case blk =>
    intro c k δ h
    rcases hcase c k δ h with ⟨rfl, _, _⟩ | ⟨hc, h, _⟩
    · exact ⟨_, blk_alloc_new⟩
    · rw [hblk c hc]; exact hs.blk c k δ h
  case real =>
    intro c k δ h
    rcases hcase c k δ h with ⟨_, rfl, _⟩ | ⟨_, h, _⟩
    · exact (Array.getElem?_eq_some_iff.1 hr).1
    · exact hs.real c k δ h
  case fix =>
    refine ⟨hs.fix.1, fun g hg => ⟨(hs.fix.2 g hg).1, fun c δ b h hb => ?_⟩⟩
    rcases hcase c g δ h with ⟨_, h2, _⟩ | ⟨hc', h2, _⟩
    · exact absurd (h2 ▸ hg) hfx
    · rw [hblk c hc'] at hb
      have hro := (hs.fix.2 g hg).2 c δ b h2 hb
      exact ⟨hro.1, by rw [grp_alloc, upd_ne (by have := (hs.wf.head c b hb).2; omega)]; exact hro.2⟩
  case obj =>
    intro c k δ b h hb hl
    rcases hcase c k δ h with ⟨rfl, rfl, rfl⟩ | ⟨hc, h, hk⟩
    · rw [blk_alloc_new] at hb; obtain rfl := Option.some.inj hb
      unfold ObjR
      refine ⟨C, (0, 0), hr, by omega, fun i x y hx hy => ?_, fun i hi hfz => ?_, fun _ i _ hi => frz_none i, fun hx => ⟨rfl, rfl, rfl⟩⟩
      · rw [Nat.zero_add] at hy; exact (hC i x y hx hy).wk hst
      · exact absurd hfz (frz_none _)
    · rw [hblk c hc] at hb
      have ho := hs.obj c k δ b h hb hl
      unfold ObjR at ho ⊢
      split
      · rename_i C1 e1 fr1 hob
        simp only [hob] at ho
        obtain ⟨C', fr', h1, h2, h3, h4, h5, h6⟩ := ho
        exact ⟨C', fr', h1, h2, fun i x y hx hy => (h3 i x y hx hy).wk hst, h4, h5, h6⟩
      · rename_i es1 ck1 hob
        simp only [hob] at ho
        obtain ⟨h1, h2, es', h3, h4, h5⟩ := ho
        exact ⟨h1, h2, es', h3, h4, fun i x y hx hy => by obtain ⟨k1, k2, k3⟩ := h5 i x y hx hy; exact ⟨k1, k2, k3.wk hst⟩⟩
      · rename_i hno2 hno3
        split at ho
        · rename_i C1 e1 fr1 hob; exact absurd hob (hno2 C1 e1 fr1)
        · rename_i es1 ck1 hob; exact absurd hob (hno3 es1 ck1)
        · exact ho
  case sep =>
    intro c d k δ ε b b' h1 h2 hb hb'
    rcases hcase c k δ h1 with ⟨rfl, rfl, rfl⟩ | ⟨hc, h1, hk⟩ <;> rcases hcase d _ ε h2 with ⟨rfl, h3, rfl⟩ | ⟨hd, h2, hk2⟩
    · rw [hb] at hb'; obtain rfl := Option.some.inj hb'; rfl
    · exact absurd rfl hk2
    · exact absurd h3 hk
    · rw [hblk c hc] at hb; rw [hblk d hd] at hb'; exact hs.sep c d k δ ε b b' h1 h2 hb hb'
  case ends =>
    intro c d k δ ε b b' C1 C' e1 e' f f' h1 h2 hb hb' hcd hC1 hC'
    rcases hcase c k δ h1 with ⟨rfl, rfl, rfl⟩ | ⟨hc, h1, hk⟩ <;> rcases hcase d _ ε h2 with ⟨rfl, h3, rfl⟩ | ⟨hd, h2, hk2⟩
    · rw [hb] at hb'; obtain rfl := Option.some.inj hb'; rw [hC1] at hC'; cases hC'; exact Nat.le_refl _
    · exact absurd rfl hk2
    · exact absurd h3 hk
    · rw [hblk c hc] at hb; rw [hblk d hd] at hb'; exact hs.ends c d k δ ε b b' C1 C' e1 e' f f' h1 h2 hb hb' hcd hC1 hC'
end

section
variable {P : Program} {call : CallA} {ops : Array Oper} {W : Nat → Value} {e0 : List Value} {H : AH}

theorem envOf_congr {W' : Nat → Value} {S : Nat → Bool} : ∀ n, (∀ k, k < n → S k = true → W k = W' k) → envOf ops W S e0 n = envOf ops W' S e0 n
  | 0, _ => rfl
  | n + 1, h => by
    simp only [envOf]
    rw [envOf_congr n fun k hk => h k (by omega)]
    cases hs : S n with
    | false => rfl
    | true => rw [h n (Nat.lt_succ_self n) hs]
theorem envOf_len2 {W' : Nat → Value} {S S' : Nat → Bool} (n : Nat) : (envOf ops W S e0 n).length = (envOf ops W' S' e0 n).length := by rw [envOf_length, envOf_length]
/-- Away from one temporary it is all the same what is put there, or whether. -/
theorem envOf_but {W' : Nat → Value} {S S' : Nat → Bool} {j : Nat} {t : Tmp} (hw : ∀ k, k ≠ j → W k = W' k) (hS : ∀ k, k ≠ j → S k = S' k) (ht : dstOf ops j ≠ some t) : ∀ n, (envOf ops W S e0 n)[t]? = (envOf ops W' S' e0 n)[t]?
  | 0 => rfl
  | n + 1 => by
    have ih := envOf_but hw hS ht n
    simp only [envOf]
    by_cases hn : n = j
    · subst hn
      have h1 : ∀ (b : Bool) (e : List Value) (v : Value), (if b = true then putE e (dstOf ops n) v else e)[t]? = e[t]? := fun b e v => by
        cases b with
        | false => rfl
        | true => exact putE_get_ne ht
      rw [h1, h1]; exact ih
    · rw [hw n hn, hS n hn]
      cases S' n with
      | false => exact ih
      | true =>
        show (putE _ (dstOf ops n) (W' n))[t]? = (putE _ (dstOf ops n) (W' n))[t]?
        by_cases hd : dstOf ops n = some t
        · rw [hd]; exact putE_get_eq (envOf_len2 n)
        · rw [putE_get_ne hd, putE_get_ne hd]; exact ih
/-- Where one operation alone puts something, that lies there. -/
theorem envOf_one {S : Nat → Bool} {j : Nat} {t : Tmp} (hd : dstOf ops j = some t) (hS : S j = true) (hone : ∀ k, k ≠ j → dstOf ops k ≠ some t) : ∀ n, j < n → ∀ x, (envOf ops W S e0 n)[t]? = some x → x = W j
  | 0, h, _, _ => absurd h (Nat.not_lt_zero _)
  | n + 1, h, x, hx => by
    simp only [envOf] at hx
    by_cases hn : n = j
    · subst hn
      rw [hS, hd] at hx
      have hx : (List.set (envOf ops W S e0 n) t (W n))[t]? = some x := hx
      rw [List.getElem?_set] at hx
      split at hx
      · split at hx
        · exact (Option.some.inj hx).symm
        · cases hx
      · rename_i h9; exact absurd rfl h9
    · have h1 : ∀ (b : Bool) (e : List Value) (v : Value), (if b = true then putE e (dstOf ops n) v else e)[t]? = e[t]? := fun b e v => by
        cases b with
        | false => rfl
        | true => exact putE_get_ne (hone n hn)
      rw [h1] at hx
      exact envOf_one hd hS hone n (by omega) x hx

theorem late_any (hp : ProgOk P) (hcall : CallOk P call) (htm : tempsG ops = true) (hbk : backB ops = true) (hsel : ∀ o, o ∈ ops → ∀ cs b, o.op ≠ .select cs b) {mind : Nat → Bool} {E : Nat → List Value} {K : Nat → AH} (hK0 : K 0 = H)
    {j : Nat} {oj : Oper} {dj : Tmp} {te : TypeId} {C : Array Value} {mk : Nat → Value} (hj : ops[j]? = some oj) (hgo : guardA ops oj (E j) = some true) (hdj : oj.dst = some dj) (hnew : W j = mk (K j).next ∧ K (j + 1) = (K j).alloc (.cells C te) true)
    (hrunj : ∀ (a : Act) (w : World), (execOp a.eval oj).run P w = .ok (.value (mk w.heap.size)) { w with heap := w.heap.push (.cells C te) }) (hCj : ∀ (φ : Phi) (H : AH) (w : World) (i : Nat) (x y : Value), C[i]? = some x → C[i]? = some y → CellR P φ H w x y)
    (hmkj : ∀ (φ : Phi) (H : AH) (w : World) (r : Nat), ValR P (upd φ H.next (r, 0)) (H.alloc (.cells C te) true) w (mk H.next) (mk r)) (hmj2 : mind j = true)
    (hnm : ∀ k p, ops[k]? = some p → k ≠ j → (dj ∈ gnamesOf ops p ∨ ∃ e, e ∈ p.after.toList ∧ Region.binds .any e = true ∧ e.on = j) → (mind k = true ∧ j < k) ∨ ∃ x, mind x = true ∧ j < x ∧ x < k ∧ ((Region.before ops).getD k 0).testBit x = true)
    (hOneD : ∀ k, k ≠ j → dstOf ops k ≠ some dj)
    (hch : ∀ i k, i < k → k < ops.size → k ≠ j → mind i = true → mind k = true → ((Region.before ops).getD k 0).testBit i = true)
    (hE : ∀ i o, ops[i]? = some o → Stp P call ops o (E i) (K i) (W i) (K (i + 1)) ∧ E i = envOf ops W (fun _ => true) e0 i ∧ (mind i = false → K (i + 1) = K i ∧ (guardA ops o (E i) = some true → ∀ j, j ≤ ops.size → evOp P call o (rho (E i)) (K j) = some (W i, K j))))
    {φ0 : Phi} {w0 : World} {df : List Deferred} {Q : Exit → Act → World → Prop} (hs0 : Sim P φ0 H w0)
    (hk : ∀ φ w a, Step P φ0 H w0 φ (K ops.size) w → Sim P φ (K ops.size) w → EnvR P φ (K ops.size) w (envOf ops W (fun _ => true) e0 ops.size) a.tmps → a.defers = df → Q .normal a w) :
    ∀ (fuel : Nat),
      (∀ (listed : Array Bool) (a : Act) (w : World) (φ : Phi), listed.size = ops.size → ((List.range ops.size).filter fun k => !listed.getD k false).length ≤ fuel →
        (∀ j o, ops[j]? = some o → listed.getD j false = true → ∀ e, e ∈ o.after.toList → Region.binds .any e = true → listed.getD e.on false = true) →
        (listed.getD j false = true → ∀ m, m < j → mind m = true → listed.getD m false = true) →
        Step P φ0 H w0 φ (hAt mind K (fun k => listed.getD k false) ops.size) w → Sim P φ (hAt mind K (fun k => listed.getD k false) ops.size) w → EnvR P φ (hAt mind K (fun k => listed.getD k false) ops.size) w (envOf ops W (fun k => listed.getD k false) e0 ops.size) a.tmps → a.defers = df → wpAny P .any ops Q fuel listed a w) ∧
      (∀ (listed : Array Bool) (a : Act) (w : World) (φ : Phi) (r : Nat), listed.size = ops.size → ((List.range ops.size).filter fun k => !listed.getD k false).length ≤ fuel →
        (∀ j o, ops[j]? = some o → listed.getD j false = true → ∀ e, e ∈ o.after.toList → Region.binds .any e = true → listed.getD e.on false = true) →
        listed.getD j false = true → (∃ m, m < j ∧ mind m = true ∧ listed.getD m false = false) →
        Step P φ0 H w0 φ (hAt mind K (fun k => listed.getD k false && !Nat.beq k j) ops.size) w → Sim P φ (hAt mind K (fun k => listed.getD k false && !Nat.beq k j) ops.size) w →
        EnvR P φ (hAt mind K (fun k => listed.getD k false && !Nat.beq k j) ops.size) w (envOf ops (fun k => bif Nat.beq k j then junk else W k) (fun k => listed.getD k false) e0 ops.size) a.tmps →
        w.heap[(r : Nat)]? = some (.cells C te (0, 0)) → w0.heap.size ≤ r → (∀ c δ, φ c ≠ some (r, δ)) → (dj < a.tmps.size → a.tmps[dj]? = some (mk r)) → a.defers = df → wpAny P .any ops Q fuel listed a w) := by
  have hjl : j < ops.size := (Array.getElem?_eq_some_iff.1 hj).1
  have hKs : ∀ j, j < ops.size → mind j = false → K (j + 1) = K j := fun j hj hm => ((hE j ops[j] (Array.getElem?_eq_getElem hj)).2.2 hm).1
  have hdop : dstOf ops j = some dj := by unfold dstOf; rw [hj]; exact hdj
  have fin : ∀ (listed : Array Bool) (a : Act) (w : World) (φ : Phi), listed.size = ops.size → Region.ready .any ops listed = [] → Step P φ0 H w0 φ (hAt mind K (fun k => listed.getD k false) ops.size) w → Sim P φ (hAt mind K (fun k => listed.getD k false) ops.size) w → EnvR P φ (hAt mind K (fun k => listed.getD k false) ops.size) w (envOf ops W (fun k => listed.getD k false) e0 ops.size) a.tmps → a.defers = df → Q .normal a w := by
    intro listed a w φ hl hr st hs he hd
    have hall := ready_nil hbk hl hr
    have hh : hAt mind K (fun k => listed.getD k false) ops.size = K ops.size := hAt_pre ops.size hKs fun j hj _ => hall j hj
    rw [hh] at st hs he
    refine hk φ w a st hs ?_ hd
    have : envOf ops W (fun k => listed.getD k false) e0 ops.size = envOf ops W (fun _ => true) e0 ops.size := by
      have go : ∀ n, n ≤ ops.size → envOf ops W (fun k => listed.getD k false) e0 n = envOf ops W (fun _ => true) e0 n := by
        intro n hn
        induction n with
        | zero => rfl
        | succ n ih => simp only [envOf, hall n (by omega), if_true]; rw [ih (by omega)]
      exact go _ (Nat.le_refl _)
    rwa [this] at he
  have none0 : ∀ (listed : Array Bool), listed.size = ops.size → ((List.range ops.size).filter fun k => !listed.getD k false).length ≤ 0 → Region.ready .any ops listed = [] := fun listed hl hc => by
    cases hr : Region.ready .any ops listed with
    | nil => rfl
    | cons i r =>
      have hm := ready_spec (show i ∈ Region.ready .any ops listed by rw [hr]; simp)
      have : i ∈ (List.range ops.size).filter fun k => !listed.getD k false := by
        rw [List.mem_filter, List.mem_range]
        refine ⟨hm.1, ?_⟩
        have h0 := hm.2.1
        rw [Array.getD_eq_getD_getElem?, Array.getElem?_eq_getElem (by omega)] at h0 ⊢
        simpa using h0
      have hnil := List.length_eq_zero_iff.1 (Nat.le_zero.1 hc)
      rw [hnil] at this
      cases this
  intro fuel
  induction fuel with
  | zero =>
    refine ⟨fun listed a w φ hl hc hS hN st hs he hd => ?_, fun listed a w φ r hl hc hS hlj hpd st hs he hr hr0 hno hrt hd => ?_⟩
    · have hr := none0 listed hl hc
      exact ⟨hr, fin listed a w φ hl hr st hs he hd⟩
    · have hr9 := none0 listed hl hc
      obtain ⟨m, hm1, hm2, hm3⟩ := hpd
      rw [ready_nil hbk hl hr9 m (by omega)] at hm3
      cases hm3
  | succ fuel ih =>
    obtain ⟨ihN, ihP⟩ := ih
    -- what each step has in common
    have comm : ∀ (listed : Array Bool) (i : Nat) (o : Oper), listed.size = ops.size → i < ops.size → listed.getD i true = false → ops[i]? = some o → (∀ e, e ∈ o.after.toList → Region.binds .any e = true → listed.getD e.on false = true) →
        (∀ j o, ops[j]? = some o → listed.getD j false = true → ∀ e, e ∈ o.after.toList → Region.binds .any e = true → listed.getD e.on false = true) →
        listed.getD i false = false ∧ (fun k => (listed.setIfInBounds i true).getD k false) = (fun k => listed.getD k false || Nat.beq k i) ∧
        (∀ j o, ops[j]? = some o → (listed.setIfInBounds i true).getD j false = true → ∀ e, e ∈ o.after.toList → Region.binds .any e = true → (listed.setIfInBounds i true).getD e.on false = true) ∧
        (∀ k, k < i → ((Region.before ops).getD i 0).testBit k = true → listed.getD k false = true) ∧
        (∀ W' : Nat → Value, envOf ops W' (fun k => (listed.setIfInBounds i true).getD k false) e0 ops.size = putE (envOf ops W' (fun k => listed.getD k false) e0 ops.size) o.dst (W' i)) ∧
        ((List.range ops.size).filter fun k => !(listed.setIfInBounds i true).getD k false).length < ((List.range ops.size).filter fun k => !listed.getD k false).length := by
      intro listed i o hl hil hno ho hpre hS
      have hno' : listed.getD i false = false := by
        rw [Array.getD_eq_getD_getElem?, Array.getElem?_eq_getElem (by omega)] at hno ⊢
        exact hno
      have hcl := closed_set hl hil hS ho hpre
      have hfun : (fun k => (listed.setIfInBounds i true).getD k false) = fun k => listed.getD k false || Nat.beq k i := by
        funext k
        rw [Array.getD_eq_getD_getElem?, Array.getElem?_setIfInBounds]
        by_cases hik : i = k
        · subst hik
          rw [if_pos rfl, if_pos (by omega), Nat.beq_refl]
          simp
        · have hb : Nat.beq k i = false := Bool.eq_false_iff.2 fun h => hik (Nat.eq_of_beq_eq_true h).symm
          rw [if_neg hik, hb, Bool.or_false, ← Array.getD_eq_getD_getElem?]
      have hii : (listed.setIfInBounds i true).getD i false = true := by
        have h4 := congrFun hfun i
        rw [h4, Nat.beq_refl]
        simp
      refine ⟨hno', hfun, hcl, fun k hki hb => ?_, fun W' => ?_, ?_⟩
      · have h2 := before_closed (fun k => (listed.setIfInBounds i true).getD k false) hcl i k hb hii
        have h4 := congrFun hfun k
        rw [h4] at h2
        have hb2 : Nat.beq k i = false := Bool.eq_false_iff.2 fun h => by have := Nat.eq_of_beq_eq_true h; omega
        simpa [hb2] using h2
      · have hd2 : dstOf ops i = o.dst := by unfold dstOf; rw [ho]; rfl
        rw [hfun, ← hd2]
        refine envOf_add i hno' ops.size hil fun k hik hkn hsk => ?_
        cases hdi : dstOf ops i with
        | none => exact .inl rfl
        | some t =>
          refine .inr fun heq => ?_
          have hko : ops[k]? = some ops[k] := Array.getElem?_eq_getElem hkn
          have hdk : ops[k].dst = some t := by have : dstOf ops k = ops[k].dst := by unfold dstOf; rw [hko]; rfl
                                               rw [← this, ← heq]
          have hb := tempsG_spec htm hko hdi (show t ∈ gnamesOf ops ops[k] from List.mem_append_left _ (by unfold namesOf; rw [hdk]; simp)) (by omega)
          rw [Nat.max_eq_right (by omega), Nat.min_eq_left (by omega)] at hb
          have h3 := before_closed (fun k => listed.getD k false) hS k i hb hsk
          rw [hno'] at h3
          cases h3
      · refine filter_lt _ _ (fun x hx => ?_) _ i (List.mem_range.2 hil) (by simp [hno']) (by simp [hii])
        have h4 := congrFun hfun x
        rw [h4] at hx
        simp at hx
        simp [hx.1]
    refine ⟨fun listed a w φ hl hc hS hN st hs he hd => ⟨fun hr => fin listed a w φ hl hr st hs he hd, fun i hi => ?_⟩, fun listed a w φ r hl hc hS hlj hpd st hs he hr hr0 hno hrt hd => ⟨fun hr9 => ?_, fun i hi => ?_⟩⟩
    · -- nothing is ahead of its place
      obtain ⟨hil, hno, o, ho, hpre⟩ := ready_spec hi
      obtain ⟨hno', hfun, hcl, hpre2, hadd, hlt⟩ := comm listed i o hl hil hno ho hpre hS
      have hmem : o ∈ ops := Array.mem_of_getElem? ho
      obtain ⟨hstp, hEi, hfree⟩ := hE i o ho
      have hag : ∀ t, t ∈ gnamesOf ops o → (envOf ops W (fun k => listed.getD k false) e0 ops.size)[t]? = (E i)[t]? := fun t ht => by
        rw [env_agreesG htm hS ho hno' hpre2 ht, envOf_lt i ops.size (by omega), hEi]
      have hgd : guardA ops o (envOf ops W (fun k => listed.getD k false) e0 ops.size) = guardA ops o (E i) := by
        unfold guardA
        cases hg : o.guard with
        | none => rfl
        | some p =>
          obtain ⟨j, want⟩ := p
          simp only
          cases hd2 : (ops[j]?).bind (·.dst) with
          | none => rfl
          | some t =>
            have := hag t (List.mem_append_right _ (by rw [hg]; show t ∈ (dstOf ops j).toList; unfold dstOf; rw [hd2]; simp))
            simp only [Option.bind_some, this]
      have hev : ∀ H2, evOp P call o (rho (envOf ops W (fun k => listed.getD k false) e0 ops.size)) H2 = evOp P call o (rho (E i)) H2 := fun H2 =>
        evOp_names (hsel o hmem) fun t ht => hag t (List.mem_append_left _ ht)
      by_cases hA : i = j ∧ ∃ m, m < j ∧ mind m = true ∧ listed.getD m false = false
      · -- the variable is made ahead of its place
        obtain ⟨rfl, hA⟩ := hA
        obtain rfl : o = oj := Option.some.inj (ho.symm.trans hj)
        unfold wpOp
        rw [ho]
        simp only
        have hw := guard_wanted he (hgd.trans hgo)
        rw [if_pos hw]
        refine .inl ?_
        have hrun := hrunj a w
        unfold Oper.wp
        rw [hrun]
        have hB : RowKit.Below w.heap.size w { w with heap := w.heap.push (.cells C te) } := ⟨rfl, rfl, rfl, by simp, fun k hk => by
          show (w.heap.push _)[k]? = _
          rw [Array.getElem?_push, if_neg (by omega)]⟩
        have hs1 := sim_below hs hB
        have st1 := step_below hs hB
        have hsame : hAt mind K (fun k => (listed.setIfInBounds i true).getD k false && !Nat.beq k i) ops.size = hAt mind K (fun k => listed.getD k false) ops.size := hAt_congr _ fun k _ _ => by
          have h4 := congrFun hfun k
          rw [h4]
          by_cases hki : k = i
          · subst hki; rw [Nat.beq_refl, hno']; rfl
          · have hb : Nat.beq k i = false := Bool.eq_false_iff.2 fun h => hki (Nat.eq_of_beq_eq_true h)
            rw [hb]; simp
        obtain ⟨m, hm1, hm2, hm3⟩ := hA
        refine ihP _ _ _ φ w.heap.size (by simpa using hl) (by omega) hcl (by have h4 := congrFun hfun i; rw [h4, Nat.beq_refl]; simp) ⟨m, hm1, hm2, ?_⟩ (by rw [hsame]; exact st.trans hs0 st1) (by rw [hsame]; exact hs1) ?_ (by show (w.heap.push _)[w.heap.size]? = _; simp) (st.size) (fun c δ h => by have := hs.real c _ δ h; omega) (fun hlt2 => ?_) (by rw [put_defers', hd])
        · have h4 := congrFun hfun m
          rw [h4, hm3]
          have hb : Nat.beq m i = false := Bool.eq_false_iff.2 fun h => by have := Nat.eq_of_beq_eq_true h; omega
          rw [hb]; rfl
        · rw [hsame, hadd]
          have hc2 : envOf ops (fun k => bif Nat.beq k i then junk else W k) (fun k => listed.getD k false) e0 ops.size = envOf ops W (fun k => listed.getD k false) e0 ops.size := envOf_congr _ fun k _ hk2 => by
            have hb : Nat.beq k i = false := Bool.eq_false_iff.2 fun h => by have := Nat.eq_of_beq_eq_true h; subst this; rw [hno'] at hk2; cases hk2
            rw [hb]; rfl
          rw [hc2, Nat.beq_refl]
          exact (he.mono st1).put o.dst (.part .junk)
        · rw [hdj] at hlt2 ⊢
          show (a.tmps.setIfInBounds dj _)[dj]? = _
          have hlt3 : dj < a.tmps.size := by simpa [Act.put] using hlt2
          rw [Array.getElem?_setIfInBounds]
          simp [hlt3]
      · -- as in the text
        have hprev : mind i = true → ∀ m, m < i → mind m = true → listed.getD m false = true := fun hm m hmi hmm => by
          by_cases hij : i = j
          · cases hlm : listed.getD m false with
            | true => rfl
            | false => exact absurd ⟨hij, m, hij ▸ hmi, hmm, hlm⟩ hA
          · exact hpre2 m hmi (hch m i hmi hil hij hmm hm)
        have hpost : mind i = true → ∀ k, i < k → k < ops.size → mind k = true → listed.getD k false = false := fun hm k hik hkl hmk => by
          cases hlk : listed.getD k false with
          | false => rfl
          | true =>
            by_cases hkj : k = j
            · subst hkj
              have := hN hlk i hik hm
              rw [hno'] at this; cases this
            · have := before_closed (fun k => listed.getD k false) hS k i (hch i k hik hkl hkj hm hmk) hlk
              rw [hno'] at this; cases this
        have hnow : mind i = true → hAt mind K (fun k => listed.getD k false) ops.size = K i := fun hm => by
          have e1 : hAt mind K (fun k => listed.getD k false) (i + (ops.size - i)) = hAt mind K (fun k => listed.getD k false) i := hAt_skip _ fun k h1 h2 h3 => by
            by_cases hki : k = i
            · subst hki; exact hno'
            · exact hpost hm k (by omega) (by omega) h3
          rw [show i + (ops.size - i) = ops.size by omega] at e1
          rw [e1]
          exact hAt_pre i (fun j hj hmj => hKs j (by omega) hmj) fun m hmi hmm => hprev hm m hmi hmm
        have hthen : hAt mind K (fun k => (listed.setIfInBounds i true).getD k false) ops.size = if mind i = true then K (i + 1) else hAt mind K (fun k => listed.getD k false) ops.size := by
          by_cases hm : mind i = true
          · rw [if_pos hm, hfun]
            have e1 : hAt mind K (fun k => listed.getD k false || Nat.beq k i) ((i + 1) + (ops.size - (i + 1))) = hAt mind K (fun k => listed.getD k false || Nat.beq k i) (i + 1) := hAt_skip _ fun k h1 h2 h3 => by
              have hb2 : Nat.beq k i = false := Bool.eq_false_iff.2 fun h => by have := Nat.eq_of_beq_eq_true h; omega
              rw [hb2, Bool.or_false]
              exact hpost hm k (by omega) (by omega) h3
            rw [show (i + 1) + (ops.size - (i + 1)) = ops.size by omega] at e1
            rw [e1]
            unfold hAt
            rw [hm, Nat.beq_refl, Bool.or_true]
            rfl
          · rw [if_neg hm, hfun]
            refine (hAt_congr _ fun k _ hmk => ?_).symm
            have hb2 : Nat.beq k i = false := Bool.eq_false_iff.2 fun h => by have := Nat.eq_of_beq_eq_true h; subst this; exact hm hmk
            rw [hb2, Bool.or_false]
        have hN' : (listed.setIfInBounds i true).getD j false = true → ∀ m, m < j → mind m = true → (listed.setIfInBounds i true).getD m false = true := fun hlj m hmj hmm => by
          have h4 := congrFun hfun j
          have h5 := congrFun hfun m
          rw [h4] at hlj
          rw [h5]
          by_cases hij : i = j
          · rw [hprev (hij ▸ hmj2) m (hij ▸ hmj) hmm]; rfl
          · have hb : Nat.beq j i = false := Bool.eq_false_iff.2 fun h => hij (Nat.eq_of_beq_eq_true h).symm
            rw [hb, Bool.or_false] at hlj
            rw [hN hlj m hmj hmm]; rfl
        unfold wpOp
        rw [ho]
        simp only
        rcases hstp with ⟨hgt, hop⟩ | ⟨hgf, hwu, hks⟩
        · have hw := guard_wanted he (hgd.trans hgt)
          rw [if_pos hw]
          have hop2 : evOp P call o (rho (envOf ops W (fun k => listed.getD k false) e0 ops.size)) (hAt mind K (fun k => listed.getD k false) ops.size) = some (W i, hAt mind K (fun k => (listed.setIfInBounds i true).getD k false) ops.size) := by
            rw [hev, hthen]
            by_cases hm : mind i = true
            · rw [if_pos hm, hnow hm]; exact hop
            · rw [if_neg hm]
              obtain ⟨j, hj, hj2, _⟩ := hAt_some mind K (fun k => listed.getD k false) ops.size
              rw [hj2]
              exact (hfree (Bool.eq_false_iff.2 hm)).2 hgt j hj
          refine .inl (evOp_sound hp hcall hs (fun x => he.rho x) hop2 _ Q fun v' w' ⟨φ', st', hs', hv'⟩ => ?_)
          refine ihN _ _ _ φ' (by simpa using hl) (by omega) hcl hN' (st.trans hs0 st') hs' ?_ (by rw [put_defers', hd])
          rw [hadd]
          exact (he.mono st').put o.dst hv'
        · have hw := guard_wanted he (hgd.trans hgf)
          rw [if_neg (by rw [hw]; simp)]
          have hsame : hAt mind K (fun k => (listed.setIfInBounds i true).getD k false) ops.size = hAt mind K (fun k => listed.getD k false) ops.size := by
            rw [hthen]
            by_cases hm : mind i = true
            · rw [if_pos hm, hnow hm, hks]
            · rw [if_neg hm]
          refine ihN _ _ _ φ (by simpa using hl) (by omega) hcl hN' (by rw [hsame]; exact st) (by rw [hsame]; exact hs) ?_ (by rw [put_defers', hd])
          rw [hadd, hsame, hwu]
          exact he.put o.dst val_undef
    · obtain ⟨m, hm1, hm2, hm3⟩ := hpd
      rw [ready_nil hbk hl hr9 m (by omega)] at hm3
      cases hm3
    · -- the variable was made ahead of its place
      obtain ⟨hil, hnoi, o, ho, hpre⟩ := ready_spec hi
      obtain ⟨hno', hfun, hcl, hpre2, hadd, hlt⟩ := comm listed i o hl hil hnoi ho hpre hS
      have hmem : o ∈ ops := Array.mem_of_getElem? ho
      obtain ⟨hstp, hEi, hfree⟩ := hE i o ho
      obtain ⟨m0, hm1, hm2, hm3⟩ := hpd
      have hij : i ≠ j := fun e => by rw [← e, hno'] at hlj; cases hlj
      have hlate : ∀ k, mind k = true → j < k → k < ops.size → listed.getD k false = false := fun k hmk hjk hkl => by
        cases hlk : listed.getD k false with
        | false => rfl
        | true =>
          have := before_closed (fun k => listed.getD k false) hS k m0 (hch m0 k (by omega) hkl (by omega) hm2 hmk) hlk
          rw [hm3] at this; cases this
      have hP1 : mind i = true → i < j := fun hm => by
        rcases Nat.lt_trichotomy i j with h | h | h
        · exact h
        · exact absurd h hij
        · have := hpre2 m0 (by omega) (hch m0 i (by omega) hil hij hm2 hm)
          rw [hm3] at this; cases this
      have hP2 : dj ∉ gnamesOf ops o := fun hmem2 => by
        rcases hnm i o ho hij (.inl hmem2) with h1 | ⟨x, hx1, hx2, hx3, hx4⟩
        · have := hP1 h1.1
          omega
        · have h1 := hpre2 x hx3 hx4
          rw [hlate x hx1 hx2 (by omega)] at h1; cases h1
      have hP3 : ∀ x p, ops[x]? = some p → (listed.getD x false && !Nat.beq x j) = true → ∀ e, e ∈ p.after.toList → Region.binds .any e = true → (listed.getD e.on false && !Nat.beq e.on j) = true := fun x p hx hlx e he1 he2 => by
        simp only [Bool.and_eq_true] at hlx ⊢
        refine ⟨hS x p hx hlx.1 e he1 he2, ?_⟩
        cases hb : Nat.beq e.on j with
        | false => rfl
        | true =>
          exfalso
          have hxj : x ≠ j := fun e2 => by rw [e2, Nat.beq_refl] at hlx; exact absurd hlx.2 (by simp)
          rcases hnm x p hx hxj (.inr ⟨e, he1, he2, Nat.eq_of_beq_eq_true hb⟩) with h1 | ⟨x2, hx1, hx2, hx3, hx4⟩
          · have h2 := hlate x h1.1 h1.2 (Array.getElem?_eq_some_iff.1 hx).1
            rw [hlx.1] at h2; cases h2
          · have h2 := before_closed (fun k => listed.getD k false) hS x x2 hx4 hlx.1
            rw [hlate x2 hx1 hx2 (by have := (Array.getElem?_eq_some_iff.1 hx).1; omega)] at h2; cases h2
      have hno2 : (listed.getD i false && !Nat.beq i j) = false := by rw [hno']; rfl
      have hpre3 : ∀ k, k < i → ((Region.before ops).getD i 0).testBit k = true → (listed.getD k false && !Nat.beq k j) = true := fun k hki hb => by
        have hcl2 : ∀ x p, ops[x]? = some p → ((listed.getD x false && !Nat.beq x j) || Nat.beq x i) = true → ∀ e, e ∈ p.after.toList → Region.binds .any e = true → ((listed.getD e.on false && !Nat.beq e.on j) || Nat.beq e.on i) = true := fun x p hx hlx e he1 he2 => by
          simp only [Bool.or_eq_true] at hlx ⊢
          rcases hlx with hlx | hlx
          · exact .inl (hP3 x p hx hlx e he1 he2)
          · obtain rfl := Nat.eq_of_beq_eq_true hlx
            obtain rfl := Option.some.inj (ho.symm.trans hx)
            refine .inl ?_
            rw [hpre e he1 he2]
            cases hb2 : Nat.beq e.on j with
            | false => rfl
            | true =>
              rcases hnm x o ho hij (.inr ⟨e, he1, he2, Nat.eq_of_beq_eq_true hb2⟩) with h1 | ⟨x2, hx1, hx2, hx3, hx4⟩
              · have := hP1 h1.1
                omega
              · have h2 := hpre2 x2 hx3 hx4
                rw [hlate x2 hx1 hx2 (by omega)] at h2; cases h2
        have h2 := before_closed (fun x => (listed.getD x false && !Nat.beq x j) || Nat.beq x i) hcl2 i k hb (by simp)
        have hb2 : Nat.beq k i = false := Bool.eq_false_iff.2 fun h => by have := Nat.eq_of_beq_eq_true h; omega
        simpa [hb2] using h2
      have hwj : ∀ k, k ≠ j → (bif Nat.beq k j then junk else W k) = W k := fun k hkj => by
        have hb : Nat.beq k j = false := Bool.eq_false_iff.2 fun h => hkj (Nat.eq_of_beq_eq_true h)
        rw [hb]; rfl
      have hag : ∀ t, t ∈ gnamesOf ops o → (envOf ops (fun k => bif Nat.beq k j then junk else W k) (fun k => listed.getD k false) e0 ops.size)[t]? = (E i)[t]? := fun t ht => by
        have h1 := envOf_but (ops := ops) (e0 := e0) (W := fun k => bif Nat.beq k j then junk else W k) (W' := W) (S := fun k => listed.getD k false) (S' := fun k => listed.getD k false && !Nat.beq k j) (j := j) (t := t) hwj (fun k hkj => by
          have hb : Nat.beq k j = false := Bool.eq_false_iff.2 fun h => hkj (Nat.eq_of_beq_eq_true h)
          simp only [hb, Bool.not_false, Bool.and_true]) (by rw [hdop]; intro e; cases e; exact hP2 ht) ops.size
        rw [h1, env_agreesG htm (S := fun k => listed.getD k false && !Nat.beq k j) hP3 ho hno2 hpre3 ht, envOf_lt i ops.size (by omega), hEi]
      have hgd : guardA ops o (envOf ops (fun k => bif Nat.beq k j then junk else W k) (fun k => listed.getD k false) e0 ops.size) = guardA ops o (E i) := by
        unfold guardA
        cases hg : o.guard with
        | none => rfl
        | some p =>
          obtain ⟨j, want⟩ := p
          simp only
          cases hd2 : (ops[j]?).bind (·.dst) with
          | none => rfl
          | some t =>
            have := hag t (List.mem_append_right _ (by rw [hg]; show t ∈ (dstOf ops j).toList; unfold dstOf; rw [hd2]; simp))
            simp only [Option.bind_some, this]
      have hev : ∀ H2, evOp P call o (rho (envOf ops (fun k => bif Nat.beq k j then junk else W k) (fun k => listed.getD k false) e0 ops.size)) H2 = evOp P call o (rho (E i)) H2 := fun H2 =>
        evOp_names (hsel o hmem) fun t ht => hag t (List.mem_append_left _ ht)
      have hnow : mind i = true → hAt mind K (fun k => listed.getD k false && !Nat.beq k j) ops.size = K i := fun hm => by
        have e1 : hAt mind K (fun k => listed.getD k false && !Nat.beq k j) (i + (ops.size - i)) = hAt mind K (fun k => listed.getD k false && !Nat.beq k j) i := hAt_skip _ fun k h1 h2 h3 => by
          by_cases hki : k = i
          · subst hki; exact hno2
          by_cases hkj : k = j
          · subst hkj; rw [Nat.beq_refl]; simp
          · cases hlk : listed.getD k false with
            | false => rfl
            | true =>
              have := before_closed (fun k => listed.getD k false) hS k i (hch i k (by omega) (by omega) hkj hm h3) hlk
              rw [hno'] at this; cases this
        rw [show i + (ops.size - i) = ops.size by omega] at e1
        rw [e1]
        exact hAt_pre i (fun j hj hmj => hKs j (by omega) hmj) fun m hmi hmm => hpre3 m hmi (hch m i hmi hil hij hmm hm)
      have hthen : hAt mind K (fun k => (listed.setIfInBounds i true).getD k false && !Nat.beq k j) ops.size = if mind i = true then K (i + 1) else hAt mind K (fun k => listed.getD k false && !Nat.beq k j) ops.size := by
        have hfun2 : (fun k => (listed.setIfInBounds i true).getD k false && !Nat.beq k j) = fun k => (listed.getD k false || Nat.beq k i) && !Nat.beq k j := by
          funext k
          have h4 := congrFun hfun k
          rw [h4]
        by_cases hm : mind i = true
        · rw [if_pos hm, hfun2]
          have e1 : hAt mind K (fun k => (listed.getD k false || Nat.beq k i) && !Nat.beq k j) ((i + 1) + (ops.size - (i + 1))) = hAt mind K (fun k => (listed.getD k false || Nat.beq k i) && !Nat.beq k j) (i + 1) := hAt_skip _ fun k h1 h2 h3 => by
            by_cases hkj : k = j
            · subst hkj; rw [Nat.beq_refl]; simp
            have hb2 : Nat.beq k i = false := Bool.eq_false_iff.2 fun h => by have := Nat.eq_of_beq_eq_true h; omega
            rw [hb2, Bool.or_false]
            cases hlk : listed.getD k false with
            | false => rfl
            | true =>
              have := before_closed (fun k => listed.getD k false) hS k i (hch i k (by omega) (by omega) hkj hm h3) hlk
              rw [hno'] at this; cases this
          rw [show (i + 1) + (ops.size - (i + 1)) = ops.size by omega] at e1
          rw [e1]
          unfold hAt
          have hbij : Nat.beq i j = false := Bool.eq_false_iff.2 fun h => hij (Nat.eq_of_beq_eq_true h)
          rw [hm, Nat.beq_refl, Bool.or_true, hbij]
          rfl
        · rw [if_neg hm, hfun2]
          refine (hAt_congr _ fun k _ hmk => ?_).symm
          have hb2 : Nat.beq k i = false := Bool.eq_false_iff.2 fun h => by have := Nat.eq_of_beq_eq_true h; subst this; exact hm hmk
          rw [hb2, Bool.or_false]
      -- what comes next
      have go : ∀ (v' : Value) (w' : World) (φ' : Phi), Step P φ (hAt mind K (fun k => listed.getD k false && !Nat.beq k j) ops.size) w φ' (hAt mind K (fun k => (listed.setIfInBounds i true).getD k false && !Nat.beq k j) ops.size) w' → Sim P φ' (hAt mind K (fun k => (listed.setIfInBounds i true).getD k false && !Nat.beq k j) ops.size) w' →
          ValR P φ' (hAt mind K (fun k => (listed.setIfInBounds i true).getD k false && !Nat.beq k j) ops.size) w' (W i) v' → wpAny P .any ops Q fuel (listed.setIfInBounds i true) (a.put o.dst v') w' := by
        intro v' w' φ' st' hs' hv'
        have hrs : r < w.heap.size := (Array.getElem?_eq_some_iff.1 hr).1
        have hr' : w'.heap[(r : Nat)]? = some (.cells C te (0, 0)) := (st'.frame r hrs fun c δ b h _ => absurd h (hno c δ)).trans hr
        have hno3 : ∀ c δ, φ' c ≠ some (r, δ) := fun c δ h => by
          cases hφ : φ c with
          | some x =>
            have := st'.ext c x hφ
            rw [h] at this
            obtain rfl := Option.some.inj this
            exact hno c δ hφ
          | none =>
            obtain ⟨d, ε, b, hd2, _⟩ := st'.new c r δ hφ h hrs
            exact hno d ε hd2
        have hdne : o.dst ≠ some dj := fun e => hP2 (List.mem_append_left _ (by unfold namesOf; rw [e]; simp))
        have hrt' : dj < (a.put o.dst v').tmps.size → (a.put o.dst v').tmps[dj]? = some (mk r) := fun h9 => by
          cases hdo : o.dst with
          | none =>
            rw [hdo] at h9
            exact hrt h9
          | some t =>
            rw [hdo] at h9 hdne
            have hlt3 : dj < a.tmps.size := by simpa [Act.put] using h9
            show (a.tmps.setIfInBounds t v')[dj]? = _
            rw [Array.getElem?_setIfInBounds, if_neg (fun e => hdne (by rw [e]))]
            exact hrt hlt3
        have hst2 := st.trans hs0 st'
        have hWi : (bif Nat.beq i j then junk else W i) = W i := hwj i hij
        have he' : EnvR P φ' (hAt mind K (fun k => (listed.setIfInBounds i true).getD k false && !Nat.beq k j) ops.size) w' (envOf ops (fun k => bif Nat.beq k j then junk else W k) (fun k => (listed.setIfInBounds i true).getD k false) e0 ops.size) (a.put o.dst v').tmps := by
          rw [hadd]
          simp only [hWi]
          exact (he.mono st').put o.dst hv'
        have hlj' : (listed.setIfInBounds i true).getD j false = true := by have h4 := congrFun hfun j; rw [h4, hlj]; rfl
        by_cases hpd2 : ∃ m, m < j ∧ mind m = true ∧ (listed.setIfInBounds i true).getD m false = false
        · exact ihP _ _ _ φ' r (by simpa using hl) (by omega) hcl hlj' hpd2 hst2 hs' he' hr' hr0 hno3 hrt' (by rw [put_defers', hd])
        · -- all that stood ahead is done: it takes its place
          have hall : ∀ m, m < j → mind m = true → (listed.setIfInBounds i true).getD m false = true := fun m hmj hmm => by
            cases hlm : (listed.setIfInBounds i true).getD m false with
            | true => rfl
            | false => exact absurd ⟨m, hmj, hmm, hlm⟩ hpd2
          have hnone : ∀ k, j < k → k < ops.size → mind k = true → (listed.setIfInBounds i true).getD k false = false := fun k hjk hkl hmk => by
            have h4 := congrFun hfun k
            rw [h4, hlate k hmk hjk hkl]
            have hb2 : Nat.beq k i = false := Bool.eq_false_iff.2 fun h => by
              have := Nat.eq_of_beq_eq_true h; subst this
              have := hP1 hmk; omega
            rw [hb2]; rfl
          have hcur : hAt mind K (fun k => (listed.setIfInBounds i true).getD k false && !Nat.beq k j) ops.size = K j := by
            have e1 : hAt mind K (fun k => (listed.setIfInBounds i true).getD k false && !Nat.beq k j) (j + (ops.size - j)) = hAt mind K (fun k => (listed.setIfInBounds i true).getD k false && !Nat.beq k j) j := hAt_skip _ fun k h1 h2 h3 => by
              by_cases hkj : k = j
              · subst hkj; rw [Nat.beq_refl]; simp
              · rw [hnone k (by omega) (by omega) h3]; rfl
            rw [show j + (ops.size - j) = ops.size by omega] at e1
            rw [e1]
            refine hAt_pre j (fun j hj hmj => hKs j (by omega) hmj) fun m hmj hmm => ?_
            have hb : Nat.beq m j = false := Bool.eq_false_iff.2 fun h => by have := Nat.eq_of_beq_eq_true h; omega
            rw [hall m hmj hmm, hb]; rfl
          have hnext : hAt mind K (fun k => (listed.setIfInBounds i true).getD k false) ops.size = (K j).alloc (.cells C te) true := by
            have e1 : hAt mind K (fun k => (listed.setIfInBounds i true).getD k false) ((j + 1) + (ops.size - (j + 1))) = hAt mind K (fun k => (listed.setIfInBounds i true).getD k false) (j + 1) := hAt_skip _ fun k h1 h2 h3 => hnone k (by omega) (by omega) h3
            rw [show (j + 1) + (ops.size - (j + 1)) = ops.size by omega] at e1
            rw [e1, ← hnew.2]
            unfold hAt
            rw [hmj2, hlj']; rfl
          rw [hcur] at hst2 hs' he'
          have hfx : r ∉ fixedBlocks := fun hm9 => by have := (hs0.fix.2 r hm9).1; omega
          have hs2 := sim_bind hs' hr' hno3 hfx (hCj _ _ _)
          have hst3 := step_bind (o := .cells C te (0, 0)) (ex := true) hs0 hst2 hs'.wf hr0
          have hwk := wk_bind (o := .cells C te (0, 0)) (ex := true) hs' (r := r)
          refine ihN _ _ _ (upd φ' (K j).next (r, 0)) (by simpa using hl) (by omega) hcl (fun _ => hall) (by rw [hnext]; exact hst3) (by rw [hnext]; exact hs2) ?_ (by rw [put_defers', hd])
          rw [hnext]
          refine ⟨he'.1.trans (envOf_len2 _), fun t x y hx hy => ?_⟩
          by_cases htd : t = dj
          · subst htd
            have hx2 := envOf_one hdop hlj' hOneD ops.size hjl x hx
            have hlt9 := (Array.getElem?_eq_some_iff.1 hy).1
            rw [hrt' hlt9] at hy
            rw [← Option.some.inj hy, hx2, hnew.1]
            exact hmkj _ _ _ _
          · have hx3 := envOf_but (ops := ops) (e0 := e0) (W := fun k => bif Nat.beq k j then junk else W k) (W' := W) (S := fun k => (listed.setIfInBounds i true).getD k false) (S' := fun k => (listed.setIfInBounds i true).getD k false) (j := j) (t := t) hwj (fun _ _ => rfl) (by rw [hdop]; intro e; cases e; exact htd rfl) ops.size
            rw [← hx3] at hx
            exact (he'.2 t x y hx hy).wk hwk
      unfold wpOp
      rw [ho]
      simp only
      rcases hstp with ⟨hgt, hop⟩ | ⟨hgf, hwu, hks⟩
      · have hw := guard_wanted he (hgd.trans hgt)
        rw [if_pos hw]
        have hop2 : evOp P call o (rho (envOf ops (fun k => bif Nat.beq k j then junk else W k) (fun k => listed.getD k false) e0 ops.size)) (hAt mind K (fun k => listed.getD k false && !Nat.beq k j) ops.size) = some (W i, hAt mind K (fun k => (listed.setIfInBounds i true).getD k false && !Nat.beq k j) ops.size) := by
          rw [hev, hthen]
          by_cases hm : mind i = true
          · rw [if_pos hm, hnow hm]; exact hop
          · rw [if_neg hm]
            obtain ⟨j2, hj2, hj3, _⟩ := hAt_some mind K (fun k => listed.getD k false && !Nat.beq k j) ops.size
            rw [hj3]
            exact (hfree (Bool.eq_false_iff.2 hm)).2 hgt j2 hj2
        exact .inl (evOp_sound hp hcall hs (fun x => he.rho x) hop2 _ Q fun v' w' ⟨φ', st', hs', hv'⟩ => go v' w' φ' st' hs' hv')
      · have hw := guard_wanted he (hgd.trans hgf)
        rw [if_neg (by rw [hw]; simp)]
        have hsame : hAt mind K (fun k => (listed.setIfInBounds i true).getD k false && !Nat.beq k j) ops.size = hAt mind K (fun k => listed.getD k false && !Nat.beq k j) ops.size := by
          rw [hthen]
          by_cases hm : mind i = true
          · rw [if_pos hm, hnow hm, hks]
          · rw [if_neg hm]
        exact go undef w φ (by rw [hsame]; exact Step.refl hs) (by rw [hsame]; exact hs) (by rw [hwu]; exact val_undef)

theorem late_region (hm : P.follows .mixedOrders = true) (hp : ProgOk P) (hcall : CallOk P call) (hch : CallH call) {ld : Bool} (hok : lateReg P ops ld = true) {e e' : List Value} {H' : AH} (h : evOps P call ops ops.toList e H = some (e', H')) (hst : ld = true → stillAll ops e' H H' = true) :
    ∀ φ w (a : Act) (Q : Exit → Act → World → Prop), Sim P φ H w → EnvR P φ H w e a.tmps → EndOk P φ H w e' H' a.defers (Q .normal) → RegWp P ops true Q a w := by
  intro φ w a Q hs he hk
  unfold lateReg at hok
  simp only [Bool.and_eq_true] at hok
  obtain ⟨⟨⟨⟨htm, hbk⟩, hld⟩, hsl⟩, hex⟩ := hok
  obtain ⟨jl, hjr, hjl⟩ := List.any_eq_true.1 hex
  simp only [Bool.and_eq_true] at hjl
  obtain ⟨hla, hcn⟩ := hjl
  have hsel : ∀ o, o ∈ ops → ∀ cs b, o.op ≠ .select cs b := fun o ho cs b e => by
    have := List.all_eq_true.1 hsl o (by simpa using ho)
    rw [e] at this
    simp [selB] at this
  obtain ⟨W, E, K, h1, h2, h3, h4, h5⟩ := trace _ _ _ _ _ h
  have hlen : ops.toList.length = ops.size := by simp
  rw [hlen] at h3 h4
  have step : ∀ i o, ops[i]? = some o → Stp P call ops o (E i) (K i) (W i) (K (i + 1)) ∧ E (i + 1) = putE (E i) o.dst (W i) := fun i o ho => h5 i o (by rw [Array.getElem?_toList]; exact ho)
  have hE : ∀ i, i ≤ ops.size → E i = envOf ops W (fun _ => true) e i := fun i hi => trace_env h1 (fun i o ho => (step i o ho).2) hi
  -- the heaps on the way
  have hup : ∀ i d, i + d ≤ ops.size → StepH (K i) (K (i + d)) := fun i d => by
    induction d with
    | zero => intro _; exact .refl
    | succ d ih =>
      intro hd
      have hlt : i + d < ops.size := by omega
      have ho : ops[i + d]? = some ops[i + d] := Array.getElem?_eq_getElem hlt
      refine (ih (by omega)).trans ?_
      rcases (step _ _ ho).1 with ⟨_, hop⟩ | ⟨_, _, hks⟩
      · exact evOp_h hch hop
      · rw [← Nat.add_assoc, hks]; exact .refl
  have hfrom : ∀ i, i ≤ ops.size → WfH (K i) ∧ HStep H (K i) := fun i hi => by
    have := hup 0 i (by omega)
    rw [h2, Nat.zero_add] at this
    exact this hs.wf
  have hto : ∀ i, i ≤ ops.size → HStep (K i) H' := fun i hi => by
    have := hup i (ops.size - i) (by omega)
    rw [show i + (ops.size - i) = ops.size by omega, h4] at this
    exact (this (hfrom i hi).1).2
  have hload : ld = true → ∀ i o t x, ops[i]? = some o → o.op = .load t x → ∀ ad, rho (E i) x = .pointer (some ad) → ∃ b, ∀ j, j ≤ ops.size → (K j).blk ad.block = some b ∧ (K j).live ad.block b = true := fun hldt i o t x ho hx ad had => by
    have hld : loadsB ops = true := by rw [hldt] at hld; simpa using hld
    have hst := hst hldt
    have hil : i < ops.size := (Array.getElem?_eq_some_iff.1 ho).1
    have hrho : rho e' x = rho (E i) x := by
      cases x with
      | tmp tm =>
        have hl2 := List.all_eq_true.1 hld i (List.mem_range.2 hil)
        rw [ho] at hl2
        simp only [hx] at hl2
        have := env_keep (t := tm) (fun i o ho => (step i o ho).2) (i := i) (ops.size - i) (by omega) fun k hk1 hk2 hd => by
          have hl3 := List.all_eq_true.1 hl2 k (List.mem_range.2 hk2)
          rw [hd] at hl3
          simp at hl3
          omega
        rw [show i + (ops.size - i) = ops.size by omega, h3] at this
        show e'.getD tm undef = (E i).getD tm undef
        rw [List.getD_eq_getElem?_getD, List.getD_eq_getElem?_getD, this]
      | _ => rfl
    have hst2 := List.all_eq_true.1 hst o (by simpa using Array.mem_of_getElem? ho)
    rw [hx] at hst2
    simp only [hrho, had, stillB] at hst2
    cases hb : H.blk ad.block with
    | none => rw [hb] at hst2; cases hst2
    | some b =>
      cases hb2 : H'.blk ad.block with
      | none => rw [hb, hb2] at hst2; cases hst2
      | some b' =>
        rw [hb, hb2] at hst2
        simp only [Bool.and_eq_true] at hst2
        exact ⟨b, fun j hj => still_mid hs.wf (hfrom j hj).2 (hto j hj) hb hb2 (Nat.eq_of_beq_eq_true hst2.1) hst2.2⟩
  have hB : RowKit.Below w.heap.size w { w with drawn := w.drawn + 1 } := (RowKit.Below.refl _ w).drew
  have hs1 := sim_below hs hB
  have st1 := step_below hs hB
  have hf0 : ∀ k, (Array.replicate ops.size false).getD k false = false := fun k => by
    rw [Array.getD_eq_getD_getElem?, Array.getElem?_replicate]; split <;> rfl
  have hh9 : ∀ mind : Nat → Bool, hAt mind K (fun k => (Array.replicate ops.size false).getD k false) ops.size = H := fun mind => by
    have := hAt_skip (mind := mind) (K := K) (S := fun k => (Array.replicate ops.size false).getD k false) (i := 0) ops.size fun k _ _ _ => hf0 k
    rw [Nat.zero_add] at this
    rw [this]; exact h2
  have hh0 := hh9 (heapB P ops ld)
  -- the new variable
  obtain ⟨oj, dj, hoj, hopj, hdj, hall⟩ : ∃ oj dj, ops[jl]? = some oj ∧ ((∃ te, oj.op = .alloc te) ∨ ∃ t n ps, oj.op = .buildSlice t n ps ∧ constP ps = true) ∧ oj.dst = some dj ∧
      ∀ k p, ops[k]? = some p → k ≠ jl → p.dst ≠ some dj ∧ ((dj ∈ gnamesOf ops p ∨ ∃ e, e ∈ p.after.toList ∧ Region.binds .any e = true ∧ e.on = jl) → (heapB P ops ld k = true ∧ jl < k) ∨ ∃ x, heapB P ops ld x = true ∧ jl < x ∧ x < k ∧ ((Region.before ops).getD k 0).testBit x = true) := by
    unfold lateAt at hla
    cases hoj : ops[jl]? with
    | none => rw [hoj] at hla; cases hla
    | some oj =>
      rw [hoj] at hla
      simp only [Bool.and_eq_true] at hla
      obtain ⟨h6, h8⟩ := hla
      cases hdj : oj.dst with
      | none => rw [hdj] at h8; cases h8
      | some dj =>
        rw [hdj] at h8
        have hop : (∃ te, oj.op = .alloc te) ∨ ∃ t n ps, oj.op = .buildSlice t n ps ∧ constP ps = true := by
          split at h6
          · rename_i te h9; exact .inl ⟨te, h9⟩
          · rename_i t n ps h9; exact .inr ⟨t, n, ps, h9, h6⟩
          · cases h6
        refine ⟨oj, dj, rfl, hop, hdj, fun k p hp2 hkj => ?_⟩
        have h9 := List.all_eq_true.1 h8 k (List.mem_range.2 (Array.getElem?_eq_some_iff.1 hp2).1)
        have hb : Nat.beq k jl = false := Bool.eq_false_iff.2 fun h => hkj (Nat.eq_of_beq_eq_true h)
        rw [hb, hp2] at h9
        simp only [Bool.false_or, Bool.and_eq_true] at h9
        obtain ⟨h10, h11⟩ := h9
        refine ⟨fun e9 => ?_, fun hor => ?_⟩
        · rw [e9] at h10
          simp at h10
        · have h12 : ((gnamesOf ops p).contains dj || p.after.toList.any fun e => Region.binds .any e && Nat.beq e.on jl) = true := by
            rcases hor with h | ⟨e, h1, h2, h3⟩
            · simp [h]
            · rw [Bool.or_eq_true]
              exact .inr (List.any_eq_true.2 ⟨e, h1, by rw [h2, h3]; simp⟩)
          rw [h12] at h11
          simp only [Bool.not_true, Bool.false_or, Bool.or_eq_true, Bool.and_eq_true, List.any_eq_true, List.mem_range] at h11
          rcases h11 with h11 | ⟨x, hx1, hx2⟩
          · exact .inl ⟨h11.1, by simpa using h11.2⟩
          · exact .inr ⟨x, hx2.1.1, by simpa using hx2.1.2, hx1, hx2.2⟩
  have hjlt : jl < ops.size := (Array.getElem?_eq_some_iff.1 hoj).1
  have hch9 : ∀ i k, i < k → k < ops.size → k ≠ jl → heapB P ops ld i = true → heapB P ops ld k = true → ((Region.before ops).getD k 0).testBit i = true := by
    intro i k hik hkl hkj hmi hmk
    have h6 := List.all_eq_true.1 hcn k (List.mem_range.2 hkl)
    have hb : Nat.beq k jl = false := Bool.eq_false_iff.2 fun h => hkj (Nat.eq_of_beq_eq_true h)
    rw [hmk, hb] at h6
    have h7 := List.all_eq_true.1 h6 i (List.mem_range.2 hik)
    rw [hmi] at h7
    exact h7
  have hE9 : ∀ i o, ops[i]? = some o → heapB P ops ld i = false → K (i + 1) = K i ∧ (guardA ops o (E i) = some true → ∀ j, j ≤ ops.size → evOp P call o (rho (E i)) (K j) = some (W i, K j)) := by
    intro i o ho hmi
    unfold heapB at hmi
    rw [ho] at hmi
    simp only at hmi
    have hcase : freeB P o.op = true ∨ (ld = true ∧ loadB o.op = true) := by
      cases hf : freeB P o.op with
      | true => exact .inl rfl
      | false =>
        cases hl : loadB o.op with
        | true => exact .inr ⟨by rw [hf, hl] at hmi; simpa using hmi, rfl⟩
        | false => rw [hf, hl] at hmi; simp at hmi
    have hstp := (step i o ho).1
    rcases hcase with hf | ⟨hldt, hl⟩
    · obtain ⟨r, hr⟩ := evOp_free (call := call) (ρ := rho (E i)) hf
      rcases hstp with ⟨hg, hop⟩ | ⟨hg, _, hks⟩
      · rw [hr] at hop
        cases r with
        | none => cases hop
        | some y =>
          simp only [Option.map_some, Option.some.injEq, Prod.mk.injEq] at hop
          exact ⟨hop.2.symm, fun _ j _ => by rw [hr, ← hop.1]; rfl⟩
      · exact ⟨hks, fun hg2 => by rw [hg] at hg2; cases hg2⟩
    · have hil : i < ops.size := (Array.getElem?_eq_some_iff.1 ho).1
      rcases hstp with ⟨hg, hop⟩ | ⟨hg, _, hks⟩
      · cases hx : o.op with
        | load t x =>
          have key : ∀ j, j ≤ ops.size → evOp P call o (rho (E i)) (K j) = some (W i, K j) ∧ K (i + 1) = K i := fun j hj =>
            load_same hx hop fun ad had => by
              obtain ⟨b, hb⟩ := hload hldt i o t x ho hx ad had
              exact ⟨b, (hb i (by omega)).1, (hb i (by omega)).2, (hb j hj).1, (hb j hj).2⟩
          exact ⟨(key i (by omega)).2, fun _ j hj => (key j hj).1⟩
        | _ => rw [hx] at hl; cases hl
      · exact ⟨hks, fun hg2 => by rw [hg] at hg2; cases hg2⟩
  have hk9 : ∀ (φ' : Phi) (w' : World) (a' : Act), Step P φ H w φ' (K ops.size) w' → Sim P φ' (K ops.size) w' → EnvR P φ' (K ops.size) w' (envOf ops W (fun _ => true) e ops.size) a'.tmps → a'.defers = a.defers → Q .normal a' w' := by
    intro φ' w' a' st hs' he' hd
    rw [h4] at st hs' he'
    rw [← hE _ (Nat.le_refl _), h3] at he'
    exact hk φ' w' a' st hs' he' hd
  have henv9 : ∀ n, envOf ops W (fun k => (Array.replicate ops.size false).getD k false) e n = e := by
    intro n
    induction n with
    | zero => rfl
    | succ n ih =>
      have hf := hf0 n
      simp only [envOf, hf, Bool.false_eq_true, if_false]
      exact ih
  rcases (step jl oj hoj).1 with ⟨hgo, hop0⟩ | ⟨hgf, hWu, hKu⟩
  rotate_left
  · refine regWp_any hm (many_any hp hcall htm hbk hsel (mind := fun k => heapB P ops ld k && !Nat.beq k jl) (E := E) (W := W) (K := K) (e0 := e) (φ0 := φ) (w0 := w) (df := a.defers) h2 (fun i k hik hkl hmi hmk => ?_) (fun i o ho => ⟨(step i o ho).1, hE i (by have := (Array.getElem?_eq_some_iff.1 ho).1; omega), fun hmi => ?_⟩) hs hk9 ops.size _ a _ φ (by simp) ?_ ?_ (by rw [hh9]; exact st1) (by rw [hh9]; exact hs1) (by rw [henv9, hh9]; exact he.mono st1) rfl)
    · simp only [Bool.and_eq_true] at hmi hmk
      refine hch9 i k hik hkl (fun e9 => ?_) hmi.1 hmk.1
      rw [e9, Nat.beq_refl] at hmk
      simp at hmk
    · by_cases hij : i = jl
      · subst hij
        obtain rfl : oj = o := Option.some.inj (hoj.symm.trans ho)
        exact ⟨hKu, fun h9 => by rw [hgf] at h9; cases h9⟩
      · have hb : Nat.beq i jl = false := Bool.eq_false_iff.2 fun h => hij (Nat.eq_of_beq_eq_true h)
        simp only [hb, Bool.not_false, Bool.and_true] at hmi
        obtain ⟨k1, k2⟩ := hE9 i o ho hmi
        exact ⟨k1, fun hg j hj _ _ => k2 hg j hj⟩
    · exact Nat.le_trans (List.length_filter_le _ _) (by simp)
    · intro j o _ hj
      rw [hf0] at hj; cases hj
  obtain ⟨te, C, mk, hnew9, hrun9, hC9, hmk9⟩ : ∃ (te : TypeId) (C : Array Value) (mk : Nat → Value), (W jl = mk (K jl).next ∧ K (jl + 1) = (K jl).alloc (.cells C te) true) ∧
      (∀ (a : Act) (w : World), (execOp a.eval oj).run P w = .ok (.value (mk w.heap.size)) { w with heap := w.heap.push (.cells C te) }) ∧ (∀ (φ : Phi) (H : AH) (w : World) (i : Nat) (x y : Value), C[i]? = some x → C[i]? = some y → CellR P φ H w x y) ∧
      (∀ (φ : Phi) (H : AH) (w : World) (r : Nat), ValR P (upd φ H.next (r, 0)) (H.alloc (.cells C te) true) w (mk H.next) (mk r)) := by
    have hop : evOp P call oj (rho (E jl)) (K jl) = some (W jl, K (jl + 1)) := by
      exact hop0
    rcases hopj with ⟨te, hopj⟩ | ⟨t, n, ps, hopj, hcp⟩
    · unfold evOp at hop
      simp only [hopj] at hop
      cases hz : zeroT P te with
      | none => rw [hz] at hop; cases hop
      | some z =>
        rw [hz] at hop
        simp only [Option.some.injEq, Prod.mk.injEq] at hop
        obtain ⟨zi, hzi, hziz, hzf⟩ := zero_info hz
        exact ⟨te, z.cells, fun r => .pointer (some ⟨r, 0, none⟩), ⟨hop.1.symm, hop.2.symm⟩, fun a w => by simp [execOp, hopj, Instr.alloc, zeroValue, typeInfo, hzi, hziz, newVar, newRow], fun φ H w => (zero_cells hzf).2,
          fun φ H w r => .part (.cell (.atom (.ptr (.inr ⟨rfl, rfl, 0, upd_same, rfl⟩))))⟩
    · unfold evOp at hop
      simp only [hopj] at hop
      obtain ⟨e9, C, h1, h2, h3, h4, h5⟩ := built_const (o := oj) hopj hcp (fun v hv => by show (bif flatB v then v else junk) = v; rw [flatB_of_atom hv]; rfl) hop
      refine ⟨e9, C, fun r => .slice (some ⟨r, 0, none⟩) n n, ⟨h1, h2⟩, fun a w => h3 a.eval (fun v _ => rfl) w, fun φ H w => (h4 φ H w).2, fun φ H w r => .part (.cell (.atom (.slice (.inr (.inr (.inl ⟨rfl, rfl, 0, C, e9, (0, 0), _, upd_same, rfl, blk_alloc_new, rfl, Nat.le_refl _, ?_, .inl rfl⟩))))))⟩
      simpa using h5
  have hmj : heapB P ops ld jl = true := by
    unfold heapB
    rw [hoj]
    rcases hopj with ⟨te, hopj⟩ | ⟨t, n, ps, hopj, _⟩ <;> simp only [hopj, freeB, loadB, Bool.and_false, Bool.not_false, Bool.and_self]
  refine regWp_any hm ((late_any hp hcall htm hbk hsel (mk := mk) (mind := heapB P ops ld) (E := E) (W := W) (K := K) (e0 := e) (φ0 := φ) (w0 := w) (df := a.defers) h2 hoj hgo hdj hnew9 hrun9 hC9 hmk9 hmj (fun k p hp2 hkj hor => (hall k p hp2 hkj).2 hor) (fun k hkj h9 => ?_) hch9 (fun i o ho => ⟨(step i o ho).1, hE i (by have := (Array.getElem?_eq_some_iff.1 ho).1; omega), hE9 i o ho⟩) hs hk9 ops.size).1 _ a _ φ (by simp) ?_ ?_ (fun h9 => by rw [hf0] at h9; cases h9) ?_ ?_ ?_ rfl)
  · unfold dstOf at h9
    cases ho : ops[k]? with
    | none => rw [ho] at h9; cases h9
    | some p =>
      rw [ho] at h9
      exact (hall k p ho hkj).1 h9
  · exact Nat.le_trans (List.length_filter_le _ _) (by simp)
  · intro j o _ hj
    rw [hf0] at hj; cases hj
  · rw [hh0]; exact st1
  · rw [hh0]; exact hs1
  · have : ∀ n, envOf ops W (fun k => (Array.replicate ops.size false).getD k false) e n = e := by
      intro n
      induction n with
      | zero => rfl
      | succ n ih =>
        have hf := hf0 n
        simp only [envOf, hf, Bool.false_eq_true, if_false]
        exact ih
    rw [this, hh0]
    exact he.mono st1
end
end Go.Proofs.YtenolmhnmcjndaaGreatDoor.Ev
namespace Go.Proofs.YtenolmhnmcjndaaGreatDoor.Ev
set_option linter.unusedVariables false
set_option linter.unusedSimpArgs false
open Go

/-! ### Blocks of the evaluator's that nobody holds yet -/
section
variable {P : Program} {φ φ' : Phi} {H H' : AH} {w w' : World}

theorem wk_alloc0 (hs : Sim P φ H w) {o : Obj} {ex : Bool} : Wk φ H w φ (H.alloc o ex) w where
  h := HStep.alloc hs.wf
  ext := fun c x h => h
  shape := fun r C e fr h => ⟨C, fr, h, rfl⟩
theorem step_alloc0 (hs : Sim P φ H w) {o : Obj} {ex : Bool} : Step P φ H w φ (H.alloc o ex) w where
  h := HStep.alloc hs.wf
  ext := fun c x h => h
  old := fun c hc h => h
  os := rfl
  tape := rfl
  output := rfl
  size := Nat.le_refl _
  shape := fun r C e fr h => ⟨C, fr, h, rfl⟩
  frame := fun k hk hall => rfl
  new := fun c k δ h h' => by rw [h] at h'; cases h'
  heads := fun c b hb hn => rfl
theorem sim_alloc0 (hs : Sim P φ H w) {o : Obj} {ex : Bool} (ho : shapeSame o o) : Sim P φ (H.alloc o ex) w := by
  have hblk : ∀ c x, φ c = some x → (H.alloc o ex).blk c = H.blk c := fun c x h => by rw [blk_alloc, if_neg (by have := hs.lt h; omega)]
  constructor
  case wf => exact hs.wf.alloc ho
  case blk => intro c k δ h; rw [hblk c _ h]; exact hs.blk c k δ h
  case real => exact hs.real
  case obj =>
    intro c k δ b h hb hl
    rw [hblk c _ h] at hb
    exact ObjR.mono (step_alloc0 hs) rfl id (hs.obj c k δ b h hb hl)
  case sep =>
    intro c d k δ ε b b' h1 h2 hb hb'
    rw [hblk c _ h1] at hb; rw [hblk d _ h2] at hb'; exact hs.sep c d k δ ε b b' h1 h2 hb hb'
  case ends =>
    intro c d k δ ε b b' C1 C' e1 e' f f' h1 h2 hb hb' hcd hC1 hC'
    rw [hblk c _ h1] at hb; rw [hblk d _ h2] at hb'; exact hs.ends c d k δ ε b b' C1 C' e1 e' f f' h1 h2 hb hb' hcd hC1 hC'
  case fix =>
    refine ⟨hs.fix.1, fun g hg => ⟨(hs.fix.2 g hg).1, fun c δ b h hb => ?_⟩⟩
    rw [hblk c _ h] at hb
    exact (hs.fix.2 g hg).2 c δ b h hb

/-- A real block that nobody held becomes one of the evaluator's that had none. -/
theorem wk_bindAt (hs : Sim P φ H w) {c r : Nat} (hc : φ c = none) : Wk φ H w (upd φ c (r, 0)) H w where
  h := HStep.refl hs.wf.shp
  ext := fun d x h => by rw [upd_ne (fun e => by rw [e, hc] at h; cases h)]; exact h
  shape := fun r C e fr h => ⟨C, fr, h, rfl⟩
theorem step_bindAt {φ0 : Phi} {H0 : AH} {w0 : World} (hs0 : Sim P φ0 H0 w0) (s : Step P φ0 H0 w0 φ H w) {c r : Nat} (hc : H0.next ≤ c) (hr : w0.heap.size ≤ r) : Step P φ0 H0 w0 (upd φ c (r, 0)) H w where
  h := s.h
  ext := fun d x h => by
    have h1 := hs0.lt h
    rw [upd_ne (by omega)]; exact s.ext d x h
  old := fun d hd h => by rw [upd_ne (by omega)]; exact s.old d hd h
  os := s.os
  tape := s.tape
  output := s.output
  size := s.size
  shape := s.shape
  frame := s.frame
  new := fun d k δ h h' hk => by
    unfold upd at h'
    split at h'
    · obtain h' := Option.some.inj h'; simp only [Prod.mk.injEq] at h'; omega
    · exact s.new d k δ h h' hk
  heads := s.heads
theorem sim_bindAt (hs : Sim P φ H w) {C C' : Array Value} {te : TypeId} {c r ver : Nat} (hc : φ c = none) (hb0 : H.blk c = some ⟨.cells C te (0, 0), c, true, ver⟩) (hr : w.heap[r]? = some (.cells C' te (0, 0))) (hno : ∀ d δ, φ d ≠ some (r, δ)) (hfx : r ∉ fixedBlocks)
    (hC : ArrR (CellR P φ H w) C C') : Sim P (upd φ c (r, 0)) H w := by
  have hst := wk_bindAt hs hc (r := r)
  have hcase : ∀ d k δ, upd φ c (r, 0) d = some (k, δ) → (d = c ∧ k = r ∧ δ = 0) ∨ (d ≠ c ∧ φ d = some (k, δ) ∧ k ≠ r) := fun d k δ h => by
    unfold upd at h; split at h
    · rename_i e; obtain h := Option.some.inj h; simp only [Prod.mk.injEq] at h; exact .inl ⟨e, h.1.symm, h.2.symm⟩
    · rename_i e; exact .inr ⟨e, h, fun e2 => hno d δ (e2 ▸ h)⟩
  constructor
  case wf => exact hs.wf
  case blk =>
    intro d k δ h
    rcases hcase d k δ h with ⟨rfl, _, _⟩ | ⟨_, h, _⟩
    · exact ⟨_, hb0⟩
    · exact hs.blk d k δ h
  case real =>
    intro d k δ h
    rcases hcase d k δ h with ⟨_, rfl, _⟩ | ⟨_, h, _⟩
    · exact (Array.getElem?_eq_some_iff.1 hr).1
    · exact hs.real d k δ h
  case fix =>
    refine ⟨hs.fix.1, fun g hg => ⟨(hs.fix.2 g hg).1, fun d δ b h hb => ?_⟩⟩
    rcases hcase d g δ h with ⟨_, h2, _⟩ | ⟨hd, h2, _⟩
    · exact absurd (h2 ▸ hg) hfx
    · have hro := (hs.fix.2 g hg).2 d δ b h2 hb
      refine ⟨hro.1, ?_⟩
      rw [upd_ne]
      · exact hro.2
      · intro e
        -- the head of a group of copies is no block of its own
        obtain ⟨b', hb', hbr⟩ := hs.wf.headBlk d b hb
        rw [e, hb0] at hb'
        cases hb'
        have hex := hs.wf.exact c _ hb0 rfl
        exact hd (hex.2.2 d b hb hbr.symm)
  case obj =>
    intro d k δ b h hb hl
    rcases hcase d k δ h with ⟨rfl, rfl, rfl⟩ | ⟨hd, h, hk⟩
    · rw [hb0] at hb; obtain rfl := Option.some.inj hb
      unfold ObjR
      refine ⟨C', (0, 0), hr, by rw [hC.1]; omega, fun i x y hx hy => ?_, fun i hi hfz => absurd hfz (frz_none _), fun _ i _ hi => frz_none i, fun hx => ⟨rfl, hC.1.symm, rfl⟩⟩
      rw [Nat.zero_add] at hy; exact (hC.2 i x y hx hy).wk hst
    · have ho := hs.obj d k δ b h hb hl
      unfold ObjR at ho ⊢
      split
      · rename_i C1 e1 fr1 hob
        simp only [hob] at ho
        obtain ⟨C', fr', h1, h2, h3, h4, h5, h6⟩ := ho
        exact ⟨C', fr', h1, h2, fun i x y hx hy => (h3 i x y hx hy).wk hst, h4, h5, h6⟩
      · rename_i es1 ck1 hob
        simp only [hob] at ho
        obtain ⟨h1, h2, es', h3, h4, h5⟩ := ho
        exact ⟨h1, h2, es', h3, h4, fun i x y hx hy => by obtain ⟨k1, k2, k3⟩ := h5 i x y hx hy; exact ⟨k1, k2, k3.wk hst⟩⟩
      · rename_i hno2 hno3
        split at ho
        · rename_i C1 e1 fr1 hob; exact absurd hob (hno2 C1 e1 fr1)
        · rename_i es1 ck1 hob; exact absurd hob (hno3 es1 ck1)
        · exact ho
  case sep =>
    intro d d' k δ ε b b' h1 h2 hb hb'
    rcases hcase d k δ h1 with ⟨rfl, rfl, rfl⟩ | ⟨hd, h1, hk⟩ <;> rcases hcase d' _ ε h2 with ⟨rfl, h3, rfl⟩ | ⟨hd', h2, hk2⟩
    · rw [hb] at hb'; obtain rfl := Option.some.inj hb'; rfl
    · exact absurd rfl hk2
    · exact absurd h3 hk
    · exact hs.sep d d' k δ ε b b' h1 h2 hb hb'
  case ends =>
    intro d d' k δ ε b b' C1 C2 e1 e2 f f' h1 h2 hb hb' hcd hC1 hC2
    rcases hcase d k δ h1 with ⟨rfl, rfl, rfl⟩ | ⟨hd, h1, hk⟩ <;> rcases hcase d' _ ε h2 with ⟨rfl, h3, rfl⟩ | ⟨hd', h2, hk2⟩
    · rw [hb] at hb'; obtain rfl := Option.some.inj hb'; rw [hC1] at hC2; cases hC2; exact Nat.le_refl _
    · exact absurd rfl hk2
    · exact absurd h3 hk
    · exact hs.ends d d' k δ ε b b' C1 C2 e1 e2 f f' h1 h2 hb hb' hcd hC1 hC2

/-! ### What makes a block -/
/-- What is known of an operation that makes a new block, and looks at nothing. -/
structure Float (P : Program) (call : CallA) (o : Oper) (ρ : Operand → Value) (C : Array Value) (te : TypeId) (mk : Nat → Value) : Prop where
  ev : ∀ H : AH, evOp P call o ρ H = some (mk H.next, H.alloc (.cells C te) true)
  run : ∀ (φ : Phi) (H : AH) (w : World) (ρ' : Operand → Value), Sim P φ H w → (∀ x, ValR P φ H w (ρ x) (ρ' x)) → ∃ C', (execOp ρ' o).run P w = .ok (.value (mk w.heap.size)) { w with heap := w.heap.push (.cells C' te) } ∧ ArrR (CellR P φ H w) C C'
  val : ∀ (φ : Phi) (H : AH) (w : World) (c r ver : Nat), φ c = some (r, 0) → H.blk c = some ⟨.cells C te (0, 0), c, true, ver⟩ → ValR P φ H w (mk c) (mk r)
theorem float_facts {call : CallA} {o : Oper} {ρ : Operand → Value} {H : AH} {v : Value} {H' : AH} (hf : floatB o.op = true) (h : evOp P call o ρ H = some (v, H')) :
    ∃ C te mk, Float P call o ρ C te mk ∧ v = mk H.next ∧ H' = H.alloc (.cells C te) true := by
  unfold floatB at hf
  cases ho : o.op <;> rw [ho] at hf <;> try (cases hf; done)
  case alloc e =>
    unfold evOp at h
    simp only [ho] at h
    split at h
    case h_2 => cases h
    rename_i z hz
    cases h
    obtain ⟨i, hi, hiz, hfl⟩ := zero_info hz
    refine ⟨z.cells, e, fun c => .pointer (some ⟨c, 0, none⟩), ⟨fun H => by unfold evOp; simp only [ho, hz], fun φ H w ρ' hs hρ => ⟨z.cells, ?_, zero_cells hfl⟩, fun φ H w c r ver hc hb => .part (.cell (.atom (.ptr (.inr ⟨rfl, rfl, 0, hc, rfl⟩))))⟩, rfl, rfl⟩
    simp [execOp, ho, Instr.alloc, zeroValue, typeInfo, hi, hiz, newVar, newRow]
  case box e x =>
    unfold evOp at h
    simp only [ho] at h
    cases hc : (ρ x).cells.toList.all isCell with
    | false => rw [hc] at h; cases h
    | true =>
      rw [hc] at h
      cases h
      refine ⟨(ρ x).cells, e, fun c => .pointer (some ⟨c, 0, none⟩), ⟨fun H => by unfold evOp; simp only [ho, hc, cond_true], fun φ H w ρ' hs hρ => ⟨(ρ' x).cells, ?_, val_cells (hρ x) hc⟩, fun φ H w c r ver hc hb => .part (.cell (.atom (.ptr (.inr ⟨rfl, rfl, 0, hc, rfl⟩))))⟩, rfl, rfl⟩
      simp [execOp, ho, Instr.box, newVar, newRow]
  case makeSlice t l c =>
    unfold evOp at h
    simp only [ho] at h
    have hev : ∀ H2 : AH, evOp P call o ρ H2 = makeSliceA P H2 t (ρ l) (ρ c) := fun H2 => by unfold evOp; simp only [ho]
    unfold makeSliceA at h hev
    split at h
    case h_2 => cases h
    rename_i e k1 n1 k2 n2 he hl hcap
    simp only [he, hl, hcap] at hev
    split at h
    case h_2 => cases h
    rename_i z hz
    simp only [hz] at hev
    split at h
    case isFalse => cases h
    rename_i hc
    simp only [if_pos hc] at hev
    obtain ⟨c1, c2, c3, c4, c5, c6⟩ := hc
    cases h
    obtain ⟨i, hi, hiz, hf⟩ := zero_info hz
    refine ⟨(Array.range (n2.toNat * szT P e)).map (z.cells[· % z.cells.size]!), e, fun c => .slice (some ⟨c, 0, none⟩) n1.toNat n2.toNat, ⟨hev, fun φ H w ρ' hs hρ => ⟨(Array.range (n2.toNat * szT P e)).map (z.cells[· % z.cells.size]!), ?_, zeros_rel hf _ c5⟩,
      fun φ H w c r ver hc hb => .part (.cell (.atom (.slice (.inr (.inr (.inl ⟨rfl, rfl, 0, _, e, (0, 0), _, hc, rfl, hb, rfl, by omega, by simp, .inl rfl⟩))))))⟩, rfl, rfl⟩
    have hl' : ρ' l = .int k1 n1 := val_int (hl ▸ hρ l)
    have hc' : ρ' c = .int k2 n2 := val_int (hcap ▸ hρ c)
    have hb : bytesT P e = i.bytes := by simp [bytesT, hi]
    rw [hb] at c4
    have w1 : IntKind.i64.wrap n1 = n1 := by simp [IntKind.wrap, IntKind.bits, IntKind.signed]; omega
    have w2 : IntKind.i64.wrap n2 = n2 := by simp [IntKind.wrap, IntKind.bits, IntKind.signed]; omega
    have hsz : szT P e = i.size := by simp [szT, hi]
    have t1 : ¬ ((i.bytes : Int) * n2 > 2 ^ 48) := by omega
    simp only [execOp, ho, Instr.makeSlice, hl', hc', asInt, asIntOf, Sem.run_bind, run_underlying (elem_some he), Result.andThen_ok, Sem.run_pure, typeInfo, run_program, hi, w1, w2]
    rw [if_neg (by simp; omega)]
    simp only [Sem.run_bind, Result.andThen_ok, run_askRoom, run_size hi]
    by_cases h0 : n2.toNat * szT P e = 0
    · have hr0 : ∀ f : Nat → Value, (Array.range 0).map f = #[] := fun f => Array.eq_empty_of_size_eq_zero (by simp)
      simp only [h0, if_true, Sem.run_bind, Sem.run_pure, Result.andThen_ok, hr0, newRow, run_newObj]
    · simp only [h0, if_false, Sem.run_bind, Sem.run_pure, Result.andThen_ok, run_zero hi hiz, newRow, run_newObj]
  case buildSlice t n parts =>
    unfold evOp at h
    simp only [ho] at h
    have hev : ∀ H2 : AH, evOp P call o ρ H2 = buildSliceA P H2 t n (parts.toList.map fun p => (p.1, ρ p.2)) := fun H2 => by unfold evOp; simp only [ho]
    unfold buildSliceA at h hev
    split at h
    case h_2 => cases h
    rename_i e he
    simp only [he] at hev
    split at h
    case h_2 => cases h
    rename_i z hz
    simp only [hz] at hev
    obtain ⟨i, hi, hiz, hf2⟩ := zero_info hz
    have hsz : szT P e = i.size := by simp [szT, hi]
    have valS : ∀ (C : Array Value), n * szT P e ≤ C.size → ∀ (φ : Phi) (H : AH) (w : World) (c r ver : Nat), φ c = some (r, 0) → H.blk c = some ⟨.cells C e (0, 0), c, true, ver⟩ → ValR P φ H w (.slice (some ⟨c, 0, none⟩) n n) (.slice (some ⟨r, 0, none⟩) n n) := fun C hC φ H w c r ver hc hb =>
      .part (.cell (.atom (.slice (.inr (.inr (.inl ⟨rfl, rfl, 0, C, e, (0, 0), _, hc, rfl, hb, rfl, Nat.le_refl _, by simpa using hC, .inl rfl⟩))))))
    split at h
    · rename_i h0
      simp only [if_pos h0] at hev
      cases hp : (parts.toList.map fun p => (p.1, ρ p.2)).isEmpty with
      | false => rw [hp] at h; cases h
      | true =>
        rw [hp] at h; cases h
        simp only [hp, cond_true] at hev
        have hpe : parts = #[] := by simpa using hp
        subst hpe
        refine ⟨#[], e, fun c => .slice (some ⟨c, 0, none⟩) n n, ⟨hev, fun φ H w ρ' hs hρ => ⟨#[], ?_, rfl, fun i x y hx _ => by simp at hx⟩, valS _ (by rw [h0]; simp)⟩, rfl, rfl⟩
        simp only [execOp, ho, Instr.buildSlice, Sem.run_bind, run_underlying (elem_some he), Result.andThen_ok, run_size hi]
        rw [if_neg (by omega)]
        have hr0 : ∀ f : Nat → Value, (Array.range 0).map f = #[] := fun f => Array.eq_empty_of_size_eq_zero (by simp)
        simp only [h0, if_true, Sem.run_bind, Sem.run_pure, Result.andThen_ok, hr0, Array.map_empty, Instr.fill, newRow, run_newObj]
    · rename_i h0
      simp only [if_neg h0] at hev
      split at h
      case isFalse => cases h
      rename_i hc
      simp only [if_pos hc] at hev
      obtain ⟨hc1, hc2, hc3⟩ := hc
      split at h
      case h_2 => cases h
      rename_i cells hfill
      simp only [hfill] at hev
      cases h
      have hsize := fill_size _ _ _ _ hfill
      refine ⟨cells, e, fun c => .slice (some ⟨c, 0, none⟩) n n, ⟨hev, fun φ H w ρ' hs hρ => ?_, valS _ (by rw [hsize]; simp)⟩, rfl, rfl⟩
      obtain ⟨D', hD, hrel⟩ := fill_rel (R := CellR P φ H w) _ (fun p : Nat × Operand => (p.1, ρ p.2)) (fun p => (p.1, ρ' p.2)) (fun _ => rfl) parts.toList _ _ _ (fun p hp => val_cells (hρ p.2) (by
        have := List.all_eq_true.1 hc3 (p.1, ρ p.2) (List.mem_map.2 ⟨p, hp, rfl⟩); exact this)) (zeros_rel hf2 _ hc2) hfill
      have hpl : (parts.map fun x => (x.1, ρ' x.2)).toList = parts.toList.map (fun p => (p.1, ρ' p.2)) := by simp
      refine ⟨D', ?_, hrel⟩
      simp only [execOp, ho, Instr.buildSlice, Sem.run_bind, run_underlying (elem_some he), Result.andThen_ok, run_size hi]
      rw [if_neg (by omega), if_neg h0]
      simp only [Sem.run_bind, Sem.run_pure, Result.andThen_ok, zeroValue, typeInfo, run_program, hi, hiz, hpl, hD, newRow, run_newObj]
end
end Go.Proofs.YtenolmhnmcjndaaGreatDoor.Ev
namespace Go.Proofs.YtenolmhnmcjndaaGreatDoor.Ev
set_option linter.unusedVariables false
set_option linter.unusedSimpArgs false
open Go
section
variable {P : Program} {call : CallA} {ops : Array Oper} {W : Nat → Value} {e0 : List Value} {H : AH}

/-! ### Looks -/
theorem cells_still {H1 H2 : AH} {c : Nat} {b : Blk} (g1 : H1.blk c = some b) (g2 : H1.live c b = true) (g3 : H2.blk c = some b) (g4 : H2.live c b = true) : H2.cells c = H1.cells c := by
  unfold AH.cells; rw [g1, g3]; simp only [g2, g4]
def cvF (d : Option TypeDesc) (r : Option (List Value)) : Option Value := match d, r with
  | some (.int .u8), some l => (bytesOfCells l).map fun b => .string ⟨b.toArray⟩
  | some (.int .i32), some l => (runesOfCells l .empty).map .string
  | _, _ => none
theorem load_sameQ {t : TypeId} {x : Operand} {o : Oper} {ρ : Operand → Value} {H1 H2 H' : AH} {v : Value} {a : Addr} (ho : o.op = .load t x) (ha : ρ x = .pointer (some a)) (h : evOp P call o ρ H1 = some (v, H')) (hq : sameQ P t a H1 H2 = true) :
    evOp P call o ρ H2 = some (v, H2) ∧ H' = H1 := by
  unfold evOp at h ⊢
  simp only [ho, ha] at h ⊢
  unfold sameQ at hq
  split at hq
  case h_2 => cases hq
  rename_i d C e f D e' f' hu hc hd
  simp only [Bool.and_eq_true] at hq
  obtain ⟨⟨h1, h2⟩, h3⟩ := hq
  have h2 := Option.isNone_iff_eq_none.1 h2
  split at h3
  case h_2 => cases h3
  rename_i y z hy hz
  have h3 := eqV_ok h3
  subst h3
  have e1 : ∀ {C : Array Value} {K : AH} {e : TypeId} {f : Nat × Nat}, K.cells a.block = some (C, e, f) → loadA P K t a = C[a.off]? := fun hk => by
    unfold loadA
    rw [h2, hk, hu]
    cases d <;> first | rfl | (simp [cellD] at h1; done)
  rw [e1 hc, hy] at h
  cases h
  rw [e1 hd, hz]
  exact ⟨rfl, rfl⟩
theorem lookX_same {x : Operand} {o : Oper} {ρ : Operand → Value} {H1 H2 : AH} {v : Value} {H' : AH} (ho : lookX P o.op = some x) (h : evOp P call o ρ H1 = some (v, H'))
    (hs : ∀ c, (match ρ x with | .pointer (some a) => a.block = c | .slice (some a) _ _ => a.block = c | .map (some r) => r = c | _ => False) → ∃ b, H1.blk c = some b ∧ H1.live c b = true ∧ H2.blk c = some b ∧ H2.live c b = true) : evOp P call o ρ H2 = some (v, H2) ∧ H' = H1 := by
  cases hop : o.op <;> rw [hop] at ho <;> simp only [lookX] at ho <;> try (cases ho; done)
  case load t a =>
    cases ho
    exact load_same hop h fun a ha => hs a.block (by rw [ha])
  case lookup t m k ok =>
    cases ho
    exact look_same hop h fun a ha => hs a (by rw [ha])
  case slice t y lo hi mx =>
    split at ho
    case h_2 => cases ho
    rename_i e hu
    cases ho
    unfold evOp at h ⊢
    simp only [hop, hu] at h ⊢
    have hsl : sliceA P H2 t (ρ x) (lo.map ρ) (hi.map ρ) (mx.map ρ) = sliceA P H1 t (ρ x) (lo.map ρ) (hi.map ρ) (mx.map ρ) := by
      unfold sliceA
      split
      · rename_i _ _ _ _ _ a _ _ _ _ _ _ hx _ _ _
        cases a with
        | none => rfl
        | some a =>
          obtain ⟨b, g1, g2, g3, g4⟩ := hs a.block (by rw [hx])
          simp only [cells_still g1 g2 g3 g4]
      · rfl
    rw [hsl]
    cases hv : sliceA P H1 t (ρ x) (lo.map ρ) (hi.map ρ) (mx.map ρ) with
    | none => rw [hv] at h; cases h
    | some y =>
      rw [hv] at h
      simp only [Option.map_some, Option.some.injEq, Prod.mk.injEq] at h
      obtain ⟨rfl, rfl⟩ := h
      exact ⟨rfl, rfl⟩
  case convert src dst y =>
    split at ho
    case h_2 => cases ho
    rename_i e hsrc hdst
    cases ho
    unfold evOp at h ⊢
    simp only [hop] at h ⊢
    have hrow : ∀ p n, (∀ a, p = some a → ∃ b, H1.blk a.block = some b ∧ H1.live a.block b = true ∧ H2.blk a.block = some b ∧ H2.live a.block b = true) → rowA H2 p n = rowA H1 p n := fun p n hp => by
      unfold rowA
      cases p with
      | none => rfl
      | some a =>
        obtain ⟨b, g1, g2, g3, g4⟩ := hp a rfl
        simp only [cells_still g1 g2 g3 g4]
    have form : ∀ (H : AH) p n c, convertA P H src dst (.slice p n c) = (cvF (P.underlying e) (rowA H p n)).map (·, H) := fun H p n c => by
      unfold convertA cvF
      simp only [hsrc, hdst]
      cases P.underlying e with
      | none => rfl
      | some d =>
        cases rowA H p n with
        | none => cases d <;> first | rfl | (rename_i k; cases k <;> rfl)
        | some l =>
          cases d with
          | int k => cases k <;> simp only <;> first | rfl | (cases bytesOfCells l <;> rfl) | (cases runesOfCells l .empty <;> rfl)
          | _ => rfl
    have none2 : ∀ (H : AH) (y : Value), (∀ p n c, y ≠ .slice p n c) → convertA P H src dst y = none := fun H y hy => by
      unfold convertA
      simp only [hsrc, hdst]
      cases y with
      | slice p n c => exact absurd rfl (hy p n c)
      | _ => rfl
    have hcv : convertA P H2 src dst (ρ x) = (convertA P H1 src dst (ρ x)).map (fun r => (r.1, H2)) ∧ ∀ r, convertA P H1 src dst (ρ x) = some r → r.2 = H1 := by
      cases hx : ρ x with
      | slice p n c =>
        rw [form, form, hrow p n fun a ha => hs a.block (by rw [hx, ha])]
        cases cvF (P.underlying e) (rowA H1 p n) with
        | none => exact ⟨rfl, fun r hr => by cases hr⟩
        | some v => exact ⟨rfl, fun r hr => by cases hr; rfl⟩
      | _ =>
        rw [none2 _ _ (fun p n c h => by cases h), none2 _ _ (fun p n c h => by cases h)]
        exact ⟨rfl, fun r hr => by cases hr⟩
    obtain ⟨hcv, hcs⟩ := hcv
    rw [hcv]
    cases hv : convertA P H1 src dst (ρ x) with
    | none =>
      rw [hv] at h
      simp only [Option.map_none] at h ⊢
      cases hfl : flatOp P o ρ with
      | none => rw [hfl] at h; cases h
      | some y =>
        rw [hfl] at h
        simp only [Option.map_some, Option.some.injEq, Prod.mk.injEq] at h
        obtain ⟨rfl, rfl⟩ := h
        exact ⟨rfl, rfl⟩
    | some r =>
      rw [hv] at h
      have := hcs r hv
      cases h
      exact ⟨rfl, this⟩
theorem stillP_spec {H1 H2 : AH} {v : Value} {c : Nat} (hc : match v with | .pointer (some a) => a.block = c | .slice (some a) _ _ => a.block = c | .map (some r) => r = c | _ => False) (h : stillP H1 H2 v = true) : stillN H1 H2 c = true := by
  cases v with
  | pointer a =>
    cases a with
    | none => exact hc.elim
    | some a => have hc : a.block = c := hc; subst hc; exact h
  | slice a n k =>
    cases a with
    | none => exact hc.elim
    | some a => have hc : a.block = c := hc; subst hc; exact h
  | map r =>
    cases r with
    | none => exact hc.elim
    | some r => have hc : r = c := hc; subst hc; exact h
  | _ => exact hc.elim
theorem stillN_spec {H1 H2 : AH} {c : Nat} (h : stillN H1 H2 c = true) : ∃ b b', H1.blk c = some b ∧ H2.blk c = some b' ∧ b'.ver = b.ver ∧ H2.live c b' = true := by
  unfold stillN at h
  split at h
  · rename_i b b' h1 h2
    rw [Bool.and_eq_true] at h
    exact ⟨b, b', h1, h2, Nat.eq_of_beq_eq_true h.1, h.2⟩
  · cases h
theorem hiP_spec (ord : List Nat) (i : Nat) : hiP P ops ord i ≤ ops.size ∧ ∀ q, q ≤ ops.size → (∀ y, y < ops.size → mindP P ops y = true → befB ops y i = true → q ≤ posO ord y) → q ≤ hiP P ops ord i := by
  unfold hiP
  have go : ∀ (l : List Nat) (m0 : Nat) (p : Nat → Prop), p m0 → (∀ k m, k ∈ l → mindP P ops k = true → befB ops k i = true → p m → p (min (posO ord k) m)) → p (l.foldr (fun k m => bif mindP P ops k && befB ops k i then min (posO ord k) m else m) m0) := by
    intro l
    induction l with
    | nil => intro m0 p h _; exact h
    | cons k l ih =>
      intro m0 p h hl
      rw [List.foldr_cons]
      have h1 := ih m0 p h fun k' m hk => hl k' m (List.mem_cons_of_mem _ hk)
      cases hc : mindP P ops k && befB ops k i with
      | true => rw [Bool.and_eq_true] at hc; exact hl k _ List.mem_cons_self hc.1 hc.2 h1
      | false => exact h1
  refine ⟨go _ _ (fun m => m ≤ ops.size) (Nat.le_refl _) fun k m _ _ _ hm => Nat.le_trans (Nat.min_le_right _ _) hm, fun q hq hall => go _ _ (fun m => q ≤ m) hq fun k m hk h1 h2 hm => ?_⟩
  rw [List.mem_range] at hk
  have := hall k hk h1 h2
  omega
end
end Go.Proofs.YtenolmhnmcjndaaGreatDoor.Ev
namespace Go.Proofs.YtenolmhnmcjndaaGreatDoor.Ev
set_option linter.unusedVariables false
set_option linter.unusedSimpArgs false
open Go
/-! ### The region -/
section
variable {P : Program} {call : CallA} {ops : Array Oper} {W : Nat → Value} {e0 : List Value} {H : AH}

/-- What is known of an order. -/
structure OrdOk (P : Program) (ops : Array Oper) (ord : List Nat) : Prop where
  temps : tempsG ops = true
  back : backB ops = true
  sel : ∀ o, o ∈ ops → ∀ cs b, o.op ≠ .select cs b
  len : ord.length = ops.size
  at_ : ∀ i, i < ops.size → posO ord i < ops.size ∧ ord[posO ord i]? = some i
  of : ∀ p i, ord[p]? = some i → i < ops.size ∧ posO ord i = p
  lin : ∀ i k, i < ops.size → k < ops.size → befB ops i k = true → posO ord k < posO ord i
  chain : ∀ i j, i < j → j < ops.size → mindP P ops i = true → mindP P ops j = true → befB ops j i = true
  early : ∀ x j, x < ops.size → j < ops.size → mindP P ops x = true → posO ord x < posO ord j → befB ops j x = true
  dist : ∀ i k d, i < ops.size → k < ops.size → k ≠ i → dstOf ops i = some d → dstOf ops k ≠ some d
theorem permOk_spec {ord : List Nat} (h : permOk P ops ord = true) : OrdOk P ops ord := by
  unfold permOk at h
  simp only [Bool.and_eq_true] at h
  obtain ⟨⟨⟨⟨⟨⟨⟨⟨⟨h1, h2⟩, h3⟩, h4⟩, h5⟩, h6⟩, h7⟩, h8⟩, h9⟩, h10⟩ := h
  have rng : ∀ {p : Nat → Bool}, (List.range ops.size).all p = true → ∀ i, i < ops.size → p i = true := fun hp i hi => List.all_eq_true.1 hp i (List.mem_range.2 hi)
  refine ⟨h1, h2, fun o ho cs b e => ?_, Nat.eq_of_beq_eq_true h4, fun i hi => ?_, fun p i hp => ?_, fun i k hi hk hb => ?_, fun i j hij hj hmi hmj => ?_, fun x j hx hj hm hp => ?_, fun i k d hi hk hne hd hd2 => ?_⟩
  · have := List.all_eq_true.1 h3 o (by simpa using ho)
    rw [e] at this
    simp [selB] at this
  · have := rng h5 i hi
    rw [Bool.and_eq_true] at this
    refine ⟨by simpa using this.1, ?_⟩
    have h2 := this.2
    split at h2
    · rename_i k hk; rw [hk, Nat.eq_of_beq_eq_true h2]
    · cases h2
  · have hpl : p < ops.size := by
      have := (List.getElem?_eq_some_iff.1 hp).1
      rw [Nat.eq_of_beq_eq_true h4] at this; exact this
    have := rng h6 p hpl
    rw [hp] at this
    simp only [Bool.and_eq_true] at this
    exact ⟨by simpa using this.1, Nat.eq_of_beq_eq_true this.2⟩
  · have := rng (rng h7 i hi) k hk
    rw [hb] at this
    simpa using this
  · have h := rng h8 j hj
    rw [hmj] at h
    have h := List.all_eq_true.1 h i (List.mem_range.2 hij)
    rw [hmi] at h
    exact h
  · have h := rng h9 x hx
    rw [hm] at h
    have h := rng h j hj
    rw [show Nat.blt (posO ord x) (posO ord j) = true by simpa using hp] at h
    exact h
  · have h := rng h10 i hi
    rw [hd] at h
    have h := rng h k hk
    rw [hd2] at h
    have hb : Nat.beq k i = false := Bool.eq_false_iff.2 fun e => hne (Nat.eq_of_beq_eq_true e)
    rw [hb] at h
    simp at h

/-- What was put where, whatever the order. -/
theorem envOf_put (hdist : ∀ i k d, i < ops.size → k < ops.size → k ≠ i → dstOf ops i = some d → dstOf ops k ≠ some d) {S : Nat → Bool} {i : Nat} (hi : i < ops.size) (hS : S i = false) :
    envOf ops W (fun k => S k || Nat.beq k i) e0 ops.size = putE (envOf ops W S e0 ops.size) (dstOf ops i) (W i) :=
  envOf_add i hS ops.size hi fun k hik hkn _ => by
    cases hd : dstOf ops i with
    | none => exact .inl rfl
    | some d => exact .inr fun e => hdist i k d hi hkn (by omega) hd e.symm

theorem perm_any (hp : ProgOk P) (hcall : CallOk P call) {ord : List Nat} (ho : OrdOk P ops ord) {E : Nat → List Value} {K : Nat → AH}
    (hstep : ∀ i o, ops[i]? = some o → Stp P call ops o (E (posO ord i)) (K (posO ord i)) (W i) (K (posO ord i + 1)))
    (hE : ∀ p, p ≤ ops.size → E p = envOf ops W (fun k => Nat.blt (posO ord k) p) e0 ops.size)
    (hK : ∀ p q, p ≤ q → q ≤ ops.size → WfH (K p) ∧ HStep (K p) (K q))
    (hlook : ∀ i o, ops[i]? = some o → mindP P ops i = false → floatB o.op = false → K (posO ord i + 1) = K (posO ord i) ∧ (guardA ops o (E (posO ord i)) = some true → ∀ q, posO ord i ≤ q → q ≤ hiP P ops ord i → evOp P call o (rho (E (posO ord i))) (K q) = some (W i, K q)))
    (hflt : ∀ i o, ops[i]? = some o → floatB o.op = true → guardA ops o (E (posO ord i)) = some true → posO ord i + 1 ≤ hiP P ops ord i → ∀ b, (K (posO ord i + 1)).blk (K (posO ord i)).next = some b → ∀ q, posO ord i + 1 ≤ q → q ≤ hiP P ops ord i → (K q).blk (K (posO ord i)).next = some b)
    {φ0 : Phi} {H0 : AH} {w0 : World} {df : List Deferred} {Q : Exit → Act → World → Prop} (hs0 : Sim P φ0 H0 w0) (hH0 : H0.next ≤ (K 0).next)
    (hk : ∀ φ w a, Step P φ0 H0 w0 φ (K ops.size) w → Sim P φ (K ops.size) w → EnvR P φ (K ops.size) w (envOf ops W (fun _ => true) e0 ops.size) a.tmps → a.defers = df → Q .normal a w) :
    ∀ (fuel : Nat) (listed : Array Bool) (a : Act) (w : World) (φ : Phi) (q : Nat), listed.size = ops.size → ((List.range ops.size).filter fun k => !listed.getD k false).length ≤ fuel →
      (∀ j o, ops[j]? = some o → listed.getD j false = true → ∀ e, e ∈ o.after.toList → Region.binds .any e = true → listed.getD e.on false = true) →
      q ≤ ops.size → (∀ i, i < ops.size → mindP P ops i = true → (listed.getD i false = true ↔ posO ord i < q)) → (q = ops.size ∨ ∃ i, i < ops.size ∧ mindP P ops i = true ∧ posO ord i = q) →
      (∀ j o, ops[j]? = some o → floatB o.op = true → guardA ops o (E (posO ord j)) = some true → listed.getD j false = false → φ (K (posO ord j)).next = none) →
      Step P φ0 H0 w0 φ (K q) w → Sim P φ (K q) w → EnvR P φ (K q) w (envOf ops W (fun k => listed.getD k false) e0 ops.size) a.tmps → a.defers = df → wpAny P .any ops Q fuel listed a w := by
  -- the heaps only grow
  have hmono : ∀ p q, p ≤ q → q ≤ ops.size → (K p).next ≤ (K q).next := fun p q h1 h2 => (hK p q h1 h2).2.next
  -- between two of the chain nothing but new blocks comes to the heap
  have lift : ∀ (d p : Nat) (φ : Phi) (w : World), p + d ≤ ops.size → (∀ i, i < ops.size → mindP P ops i = true → ¬ (p ≤ posO ord i ∧ posO ord i < p + d)) → Sim P φ (K p) w → Sim P φ (K (p + d)) w ∧ Step P φ (K p) w φ (K (p + d)) w := by
    intro d
    induction d with
    | zero => intro p φ w _ _ hs; exact ⟨hs, Step.refl hs⟩
    | succ d ih =>
      intro p φ w hle hno hs
      obtain ⟨hs1, st1⟩ := ih p φ w (by omega) (fun i hi hm => fun h => hno i hi hm (by omega)) hs
      have hpl : p + d < ops.size := by omega
      obtain ⟨i, hi⟩ : ∃ i, ord[p + d]? = some i := ⟨_, List.getElem?_eq_getElem (by rw [ho.len]; exact hpl)⟩
      obtain ⟨hil, hpos⟩ := ho.of _ _ hi
      have hoi : ops[i]? = some ops[i] := Array.getElem?_eq_getElem hil
      have hnm : mindP P ops i = false := by
        cases hm : mindP P ops i with
        | false => rfl
        | true => exact absurd ⟨by omega, by omega⟩ (hno i hil hm)
      have hst := hstep i _ hoi
      rw [hpos] at hst
      rw [← Nat.add_assoc]
      by_cases hfl : floatB ops[i].op = true
      · rcases hst with ⟨_, hop⟩ | ⟨_, _, hks⟩
        · obtain ⟨C, te, mk, hf, hv, hH'⟩ := float_facts hfl hop
          rw [hH']
          exact ⟨sim_alloc0 hs1 ⟨rfl, rfl⟩, st1.trans hs (step_alloc0 hs1)⟩
        · rw [hks]; exact ⟨hs1, st1⟩
      · have := (hlook i _ hoi hnm (Bool.eq_false_iff.2 hfl)).1
        rw [hpos] at this
        rw [this]; exact ⟨hs1, st1⟩
  have fin : ∀ (listed : Array Bool) (a : Act) (w : World) (φ : Phi) (q : Nat), listed.size = ops.size → Region.ready .any ops listed = [] → q ≤ ops.size → (∀ i, i < ops.size → mindP P ops i = true → (listed.getD i false = true ↔ posO ord i < q)) → (q = ops.size ∨ ∃ i, i < ops.size ∧ mindP P ops i = true ∧ posO ord i = q) →
      Step P φ0 H0 w0 φ (K q) w → Sim P φ (K q) w → EnvR P φ (K q) w (envOf ops W (fun k => listed.getD k false) e0 ops.size) a.tmps → a.defers = df → Q .normal a w := by
    intro listed a w φ q hl hr hq hinv hqe st hs he hd
    have hall := ready_nil ho.back hl hr
    have hqs : q = ops.size := by
      rcases hqe with h | ⟨i, hi, hm, hpq⟩
      · exact h
      · have := (hinv i hi hm).1 (hall i hi); omega
    subst hqs
    refine hk φ w a st hs ?_ hd
    have : envOf ops W (fun k => listed.getD k false) e0 ops.size = envOf ops W (fun _ => true) e0 ops.size := by
      have go : ∀ n, n ≤ ops.size → envOf ops W (fun k => listed.getD k false) e0 n = envOf ops W (fun _ => true) e0 n := by
        intro n hn
        induction n with
        | zero => rfl
        | succ n ih => simp only [envOf, hall n (by omega), if_true]; rw [ih (by omega)]
      exact go _ (Nat.le_refl _)
    rwa [this] at he
  intro fuel
  induction fuel with
  | zero =>
    intro listed a w φ q hl hc hS hq hinv hqe hfn st hs he hd
    have hr : Region.ready .any ops listed = [] := by
      cases hr : Region.ready .any ops listed with
      | nil => rfl
      | cons i r =>
        have hm := ready_spec (show i ∈ Region.ready .any ops listed by rw [hr]; simp)
        have : i ∈ (List.range ops.size).filter fun k => !listed.getD k false := by
          rw [List.mem_filter, List.mem_range]
          refine ⟨hm.1, ?_⟩
          have h0 := hm.2.1
          rw [Array.getD_eq_getD_getElem?, Array.getElem?_eq_getElem (by omega)] at h0 ⊢
          simpa using h0
        have hnil := List.length_eq_zero_iff.1 (Nat.le_zero.1 hc)
        rw [hnil] at this
        cases this
    exact ⟨hr, fin listed a w φ q hl hr hq hinv hqe st hs he hd⟩
  | succ fuel ih =>
    intro listed a w φ q hl hc hS hq hinv hqe hfn st hs he hd
    refine ⟨fun hr => fin listed a w φ q hl hr hq hinv hqe st hs he hd, fun i hi => ?_⟩
    obtain ⟨hil, hno, o, hoi, hpre⟩ := ready_spec hi
    have hno' : listed.getD i false = false := by
      rw [Array.getD_eq_getD_getElem?, Array.getElem?_eq_getElem (by omega)] at hno ⊢
      exact hno
    have hmem : o ∈ ops := Array.mem_of_getElem? hoi
    have hcl := closed_set hl hil hS hoi hpre
    have hfun : (fun k => (listed.setIfInBounds i true).getD k false) = fun k => listed.getD k false || Nat.beq k i := by
      funext k
      rw [Array.getD_eq_getD_getElem?, Array.getElem?_setIfInBounds]
      by_cases hik : i = k
      · subst hik
        rw [if_pos rfl, if_pos (by omega), Nat.beq_refl]
        simp
      · have hb : Nat.beq k i = false := Bool.eq_false_iff.2 fun h => hik (Nat.eq_of_beq_eq_true h).symm
        rw [if_neg hik, hb, Bool.or_false, ← Array.getD_eq_getD_getElem?]
    have hat : ∀ k, (listed.setIfInBounds i true).getD k false = (listed.getD k false || Nat.beq k i) := fun k => congrFun hfun k
    have hii : (listed.setIfInBounds i true).getD i false = true := by rw [hat, Nat.beq_refl]; simp
    -- what stands ahead is done
    have hpre2 : ∀ k, befB ops i k = true → k < i → listed.getD k false = true := fun k hb hki => by
      have h2 := before_closed (fun k => (listed.setIfInBounds i true).getD k false) hcl i k hb hii
      have h4 := hat k
      rw [h4] at h2
      have hb2 : Nat.beq k i = false := Bool.eq_false_iff.2 fun h => by have := Nat.eq_of_beq_eq_true h; omega
      simpa [hb2] using h2
    have hpre3 : ∀ k, k < ops.size → befB ops i k = true → listed.getD k false = true := fun k hkl hb => by
      have h2 := before_closed (fun k => (listed.setIfInBounds i true).getD k false) hcl i k hb hii
      have h4 := hat k
      rw [h4] at h2
      have hne : k ≠ i := fun e => by have := ho.lin i k hil hkl hb; rw [e] at this; omega
      have hb2 : Nat.beq k i = false := Bool.eq_false_iff.2 fun h => hne (Nat.eq_of_beq_eq_true h)
      simpa [hb2] using h2
    -- the operation finds its operands
    have hag : ∀ t, t ∈ gnamesOf ops o → (envOf ops W (fun k => listed.getD k false) e0 ops.size)[t]? = (E (posO ord i))[t]? := fun t ht => by
      rw [hE _ (Nat.le_of_lt (ho.at_ i hil).1)]
      refine envOf_at t _ fun k hk2 hdk => ?_
      by_cases hki : k = i
      · subst hki
        rw [hno']
        exact (Bool.eq_false_iff.2 (by simp)).symm
      · have hb := tempsG_spec ho.temps hoi hdk ht hki
        by_cases hlt : k < i
        · rw [Nat.max_eq_right (by omega), Nat.min_eq_left (by omega)] at hb
          rw [hpre2 k hb hlt]
          have := ho.lin i k hil hk2 hb
          simp [this]
        · rw [Nat.max_eq_left (by omega), Nat.min_eq_right (by omega)] at hb
          have h1 : listed.getD k false = false := by
            cases hs2 : listed.getD k false with
            | false => rfl
            | true => have := before_closed (fun k => listed.getD k false) hS k i hb hs2; rw [hno'] at this; cases this
          have h2 := ho.lin k i hk2 hil hb
          rw [h1]
          exact (Bool.eq_false_iff.2 (by simp; omega)).symm
    have hgd : guardA ops o (envOf ops W (fun k => listed.getD k false) e0 ops.size) = guardA ops o (E (posO ord i)) := by
      unfold guardA
      cases hg : o.guard with
      | none => rfl
      | some p =>
        obtain ⟨j, want⟩ := p
        simp only
        cases hd2 : (ops[j]?).bind (·.dst) with
        | none => rfl
        | some t =>
          have := hag t (List.mem_append_right _ (by rw [hg]; show t ∈ (dstOf ops j).toList; unfold dstOf; rw [hd2]; simp))
          simp only [Option.bind_some, this]
    have hev : ∀ H2, evOp P call o (rho (envOf ops W (fun k => listed.getD k false) e0 ops.size)) H2 = evOp P call o (rho (E (posO ord i))) H2 := fun H2 =>
      evOp_names (ho.sel o hmem) fun t ht => hag t (List.mem_append_left _ ht)
    have hadd : envOf ops W (fun k => (listed.setIfInBounds i true).getD k false) e0 ops.size = putE (envOf ops W (fun k => listed.getD k false) e0 ops.size) o.dst (W i) := by
      have hd2 : dstOf ops i = o.dst := by unfold dstOf; rw [hoi]; rfl
      rw [hfun, ← hd2]
      exact envOf_put ho.dist hil hno'
    have hlt : ((List.range ops.size).filter fun k => !(listed.setIfInBounds i true).getD k false).length < ((List.range ops.size).filter fun k => !listed.getD k false).length := by
      refine filter_lt _ _ (fun x hx => ?_) _ i (List.mem_range.2 hil) (by simp [hno']) (by simp [hii])
      have h4 := hat x
      rw [h4] at hx
      simp at hx
      simp [hx.1]
    have fnm : ∀ j o', ops[j]? = some o' → floatB o'.op = true → mindP P ops j = false := fun j o' hj hf => by
      unfold mindP
      rw [hj]
      simp only [hf, Bool.not_true, Bool.and_false]
    -- floats not done have no image
    have hfn' : ∀ (φ' : Phi) (w' : World) (q1 : Nat), (q1 = q ∨ (q1 = q + 1 ∧ ∃ y, y < ops.size ∧ mindP P ops y = true ∧ posO ord y = q)) → q1 ≤ ops.size → (∀ c, c < (K q).next → φ c = none → (∀ j o', ops[j]? = some o' → floatB o'.op = true → guardA ops o' (E (posO ord j)) = some true → listed.getD j false = false → j ≠ i → c = (K (posO ord j)).next → φ' c = none)) → Sim P φ' (K q1) w' →
        ∀ j o', ops[j]? = some o' → floatB o'.op = true → guardA ops o' (E (posO ord j)) = some true → (listed.setIfInBounds i true).getD j false = false → φ' (K (posO ord j)).next = none := fun φ' w' q1 hq1 hq1s hold hs' j o' hj hf hgj hlj => by
      have h4 := hat j
      rw [hlj] at h4
      have hlj2 : listed.getD j false = false := by cases h5 : listed.getD j false with | false => rfl | true => rw [h5] at h4; cases h4
      have hjl : j < ops.size := (Array.getElem?_eq_some_iff.1 hj).1
      have hji : j ≠ i := fun e => by rw [e, Nat.beq_refl] at h4; simp at h4
      by_cases h7 : (K (posO ord j)).next < (K q).next
      · exact hold _ h7 (hfn j o' hj hf hgj hlj2) j o' hj hf hgj hlj2 hji rfl
      · cases hφ : φ' (K (posO ord j)).next with
        | none => rfl
        | some x =>
          exfalso
          have h8 := hs'.lt hφ
          have hpq : posO ord j < q1 := Nat.lt_of_not_le fun h9 => by
            have := hmono q1 (posO ord j) h9 (Nat.le_of_lt (ho.at_ j hjl).1)
            omega
          have hpq2 : posO ord j < q := by
            rcases hq1 with h | ⟨h, y, hy1, hy2, hy3⟩
            · omega
            · rcases Nat.lt_or_ge (posO ord j) q with h9 | h9
              · exact h9
              · exfalso
                have h10 : posO ord j = posO ord y := by omega
                have a1 := (ho.at_ j hjl).2
                have a2 := (ho.at_ y hy1).2
                rw [h10, a2] at a1
                obtain rfl := Option.some.inj a1
                rw [fnm _ o' hj hf] at hy2; cases hy2
          rcases (hstep j o' hj) with ⟨_, hop⟩ | ⟨hgf, _, _⟩
          · obtain ⟨C, te, mk, hf2, hv, hH'⟩ := float_facts hf hop
            have h6 := hmono (posO ord j + 1) q (by omega) hq
            rw [hH'] at h6
            have : ((K (posO ord j)).alloc (.cells C te) true).next = (K (posO ord j)).next + 1 := next_alloc
            omega
          · rw [hgj] at hgf; cases hgf
    have inj : ∀ x y, x < ops.size → y < ops.size → posO ord x = posO ord y → x = y := fun x y hx hy h => by
      have a1 := (ho.at_ x hx).2
      have a2 := (ho.at_ y hy).2
      rw [h, a2] at a1
      exact (Option.some.inj a1).symm
    have hil2 := (ho.at_ i hil).1
    -- no chain operation that waits is at a place ahead
    have hwait : ∀ y, y < ops.size → mindP P ops y = true → posO ord y = q → befB ops i y = true → False := fun y hy hm hpy hb => by
      have h1 := hpre3 y hy hb
      have := (hinv y hy hm).1 h1
      omega
    unfold wpOp
    rw [hoi]
    simp only
    by_cases hm : mindP P ops i = true
    · -- one of the chain
      have hpq : posO ord i = q := by
        have h1 : ¬ posO ord i < q := fun h => by have := (hinv i hil hm).2 h; rw [hno'] at this; cases this
        rcases hqe with h | ⟨y, hy, hmy, hpy⟩
        · omega
        · by_cases hyi : y = i
          · rw [← hyi]; exact hpy
          · exfalso
            rcases Nat.lt_or_ge i y with h2 | h2
            · have := ho.lin y i hy hil (ho.chain i y h2 hy hm hmy)
              omega
            · exact hwait y hy hmy hpy (ho.chain y i (by omega) hil hmy hm)
      -- the next of the chain
      have nxt : ∀ d p, p + d = ops.size → ∃ q', p ≤ q' ∧ q' ≤ ops.size ∧ (∀ y, y < ops.size → mindP P ops y = true → ¬ (p ≤ posO ord y ∧ posO ord y < q')) ∧ (q' = ops.size ∨ ∃ y, y < ops.size ∧ mindP P ops y = true ∧ posO ord y = q') := fun d => by
        induction d with
        | zero => intro p hp2; exact ⟨p, Nat.le_refl _, by omega, fun y _ _ h => by omega, .inl (by omega)⟩
        | succ d ihd =>
          intro p hp2
          by_cases hex : ∃ y, y < ops.size ∧ mindP P ops y = true ∧ posO ord y = p
          · exact ⟨p, Nat.le_refl _, by omega, fun y _ _ h => by omega, .inr hex⟩
          · obtain ⟨q', h1, h2, h3, h4⟩ := ihd (p + 1) (by omega)
            exact ⟨q', by omega, h2, fun y hy hmy h => by
              by_cases h5 : posO ord y = p
              · exact hex ⟨y, hy, hmy, h5⟩
              · exact h3 y hy hmy (by omega), h4⟩
      obtain ⟨q', hq1, hq2, hq3, hq4⟩ := nxt (ops.size - (q + 1)) (q + 1) (by omega)
      have hinv' : ∀ y, y < ops.size → mindP P ops y = true → ((listed.setIfInBounds i true).getD y false = true ↔ posO ord y < q') := fun y hy hmy => by
        rw [hat y]
        by_cases hyi : y = i
        · subst hyi
          rw [Nat.beq_refl]
          simp
          omega
        · have hb : Nat.beq y i = false := Bool.eq_false_iff.2 fun h => hyi (Nat.eq_of_beq_eq_true h)
          rw [hb, Bool.or_false, hinv y hy hmy]
          have hne : posO ord y ≠ q := fun h => hyi (inj y i hy hil (by omega))
          constructor
          · intro h; omega
          · intro h
            rcases Nat.lt_or_ge (posO ord y) q with h1 | h1
            · exact h1
            · exact absurd ⟨by omega, h⟩ (hq3 y hy hmy)
      have hst := hstep i o hoi
      rw [hpq] at hst
      rw [hpq] at hgd hev
      have cont : ∀ (φ' : Phi) (w' : World) (v' : Value), Step P φ (K q) w φ' (K (q + 1)) w' → Sim P φ' (K (q + 1)) w' → ValR P φ' (K (q + 1)) w' (W i) v' → wpAny P .any ops Q fuel (listed.setIfInBounds i true) (a.put o.dst v') w' := fun φ' w' v' st' hs' hv' => by
        obtain ⟨hs2, st2⟩ := lift (q' - (q + 1)) (q + 1) φ' w' (by omega) (fun y hy hmy h => hq3 y hy hmy (by omega)) hs'
        rw [show q + 1 + (q' - (q + 1)) = q' by omega] at hs2 st2
        refine ih _ _ _ φ' q' (by simpa using hl) (by omega) hcl hq2 hinv' hq4 ?_ ((st.trans hs0 st').trans hs0 st2) hs2 ?_ (by rw [put_defers', hd])
        · exact hfn' φ' w' (q + 1) (.inr ⟨rfl, i, hil, hm, hpq⟩) (by omega) (fun c hc2 hcn _ _ _ _ _ _ _ _ => st'.old c hc2 hcn) hs'
        · rw [hadd]
          exact (((he.mono st').put o.dst hv').mono st2)
      rcases hst with ⟨hgt, hop⟩ | ⟨hgf, hwu, hks⟩
      · have hw := guard_wanted he (hgd.trans hgt)
        rw [if_pos hw]
        refine .inl (evOp_sound hp hcall hs (fun x => he.rho x) ((hev _).trans hop) _ Q fun v' w' ⟨φ', st', hs', hv'⟩ => cont φ' w' v' st' hs' hv')
      · have hw := guard_wanted he (hgd.trans hgf)
        rw [if_neg (by rw [hw]; simp)]
        refine cont φ w undef (by rw [hks]; exact Step.refl hs) (by rw [hks]; exact hs) (by rw [hwu]; exact val_undef)
    · -- one that does not mind the heap
      have hm : mindP P ops i = false := Bool.eq_false_iff.2 hm
      have hpq : posO ord i < q := by
        refine Nat.lt_of_not_le fun hle => ?_
        rcases hqe with h | ⟨y, hy, hmy, hpy⟩
        · omega
        · have hne : posO ord y ≠ posO ord i := fun h => by rw [inj y i hy hil h, hm] at hmy; cases hmy
          exact hwait y hy hmy hpy (ho.early y i hy hil hmy (by omega))
      have hhi : q ≤ hiP P ops ord i := (hiP_spec ord i).2 q hq fun y hy hmy hb => by
        refine Nat.le_of_not_lt fun hlt2 => ?_
        have h1 := (hinv y hy hmy).2 hlt2
        have := before_closed (fun k => listed.getD k false) hS y i hb h1
        rw [hno'] at this; cases this
      have hinv' : ∀ y, y < ops.size → mindP P ops y = true → ((listed.setIfInBounds i true).getD y false = true ↔ posO ord y < q) := fun y hy hmy => by
        rw [hat y]
        have hyi : y ≠ i := fun e => by rw [e, hm] at hmy; cases hmy
        have hb : Nat.beq y i = false := Bool.eq_false_iff.2 fun h => hyi (Nat.eq_of_beq_eq_true h)
        rw [hb, Bool.or_false]
        exact hinv y hy hmy
      have hst := hstep i o hoi
      rcases hst with ⟨hgt, hop⟩ | ⟨hgf, hwu, hks⟩
      · have hw := guard_wanted he (hgd.trans hgt)
        rw [if_pos hw]
        by_cases hfl : floatB o.op = true
        · -- a new block
          obtain ⟨C, te, mk, hf, hv, hH'⟩ := float_facts hfl ((hev _).trans hop)
          obtain ⟨C', hrun, hCC⟩ := hf.run φ (K q) w a.eval hs (fun x => he.rho x)
          refine .inl ?_
          unfold Oper.wp
          rw [hrun]
          have hB : RowKit.Below w.heap.size w { w with heap := w.heap.push (.cells C' te) } := ⟨rfl, rfl, rfl, by simp, fun k hk => by
            show (w.heap.push _)[k]? = _
            rw [Array.getElem?_push, if_neg (by omega)]⟩
          have hs1 := sim_below hs hB
          have st1 := step_below hs hB
          have hblk : (K (posO ord i + 1)).blk (K (posO ord i)).next = some ⟨.cells C te (0, 0), (K (posO ord i)).next, true, (K (posO ord i)).clock⟩ := by rw [hH']; exact blk_alloc_new
          have hblq := hflt i o hoi hfl hgt (by omega) _ hblk q (by omega) hhi
          have hcn := hfn i o hoi hfl hgt hno'
          have hrn : ∀ d δ, φ d ≠ some (w.heap.size, δ) := fun d δ h => by have := hs.real d _ δ h; omega
          have hfx : w.heap.size ∉ fixedBlocks := fun h => by have := (hs.fix.2 _ h).1; omega
          have hs2 := sim_bindAt (r := w.heap.size) hs1 hcn hblq (by show (w.heap.push _)[w.heap.size]? = _; simp) hrn hfx ⟨hCC.1, fun k x y hx hy => (hCC.2 k x y hx hy).mono st1⟩
          have hc0 : H0.next ≤ (K (posO ord i)).next := Nat.le_trans hH0 (hmono 0 _ (Nat.zero_le _) (Nat.le_of_lt hil2))
          have st2 := step_bindAt hs0 (st.trans hs0 st1) hc0 (r := w.heap.size) st.size
          refine ih _ _ _ (upd φ (K (posO ord i)).next (w.heap.size, 0)) q (by simpa using hl) (by omega) hcl hq hinv' hqe ?_ st2 hs2 ?_ (by rw [put_defers', hd])
          · refine hfn' _ _ q (.inl rfl) hq (fun c hc2 hcn2 j o' hj hfj hgj hlj hji hcj => ?_) hs2
            rw [upd_ne]
            · exact hcn2
            · -- blocks of two floats are two
              intro e
              rw [hcj] at e
              have hjl : j < ops.size := (Array.getElem?_eq_some_iff.1 hj).1
              rcases Nat.lt_trichotomy (posO ord j) (posO ord i) with h1 | h1 | h1
              · have h2 := hmono (posO ord j + 1) (posO ord i) (by omega) (by omega)
                rcases hstep j o' hj with ⟨_, hop2⟩ | ⟨hgf2, _, _⟩
                · obtain ⟨C2, te2, mk2, _, _, hH2⟩ := float_facts hfj hop2
                  rw [hH2] at h2
                  have : ((K (posO ord j)).alloc (.cells C2 te2) true).next = (K (posO ord j)).next + 1 := next_alloc
                  omega
                · rw [hgj] at hgf2; cases hgf2
              · exact hji (inj j i hjl hil h1)
              · have h2 := hmono (posO ord i + 1) (posO ord j) (by omega) (Nat.le_of_lt (ho.at_ j hjl).1)
                rw [hH'] at h2
                have : ((K (posO ord i)).alloc (.cells C te) true).next = (K (posO ord i)).next + 1 := next_alloc
                omega
          · rw [hadd]
            refine EnvR.put ?_ o.dst ?_
            · have hwk := wk_bindAt hs1 hcn (r := w.heap.size)
              have hm1 := he.mono st1
              exact ⟨hm1.1, fun t x y hx hy => (hm1.2 t x y hx hy).wk hwk⟩
            · rw [hv]
              exact hf.val _ _ _ _ _ _ upd_same hblq
        · -- a look, or nothing of the heap
          have hfl : floatB o.op = false := Bool.eq_false_iff.2 hfl
          have hlk := (hlook i o hoi hm hfl).2 hgt q (Nat.le_of_lt hpq) hhi
          refine .inl (evOp_sound hp hcall hs (fun x => he.rho x) ((hev _).trans hlk) _ Q fun v' w' ⟨φ', st', hs', hv'⟩ => ?_)
          refine ih _ _ _ φ' q (by simpa using hl) (by omega) hcl hq hinv' hqe ?_ (st.trans hs0 st') hs' ?_ (by rw [put_defers', hd])
          · exact hfn' φ' w' q (.inl rfl) hq (fun c hc2 hcn _ _ _ _ _ _ _ _ => st'.old c hc2 hcn) hs'
          · rw [hadd]
            exact (he.mono st').put o.dst hv'
      · have hw := guard_wanted he (hgd.trans hgf)
        rw [if_neg (by rw [hw]; simp)]
        refine ih _ _ _ φ q (by simpa using hl) (by omega) hcl hq hinv' hqe ?_ st hs ?_ (by rw [put_defers', hd])
        · exact hfn' φ w q (.inl rfl) hq (fun c hc2 hcn _ _ _ _ _ _ _ _ => hcn) hs
        · rw [hadd, hwu]
          exact he.put o.dst val_undef
end
end Go.Proofs.YtenolmhnmcjndaaGreatDoor.Ev
namespace Go.Proofs.YtenolmhnmcjndaaGreatDoor.Ev
set_option linter.unusedVariables false
set_option linter.unusedSimpArgs false
open Go
section
variable {P : Program} {call : CallA} {ops : Array Oper} {H : AH}
theorem filterMap_ord {ord : List Nat} (h : ∀ (p i : Nat), ord[p]? = some i → i < ops.size) : ∀ p : Nat, (ord.filterMap (ops[·]?))[p]? = (ord[p]?).bind (ops[·]?) := by
  induction ord with
  | nil => intro p; simp
  | cons i r ih =>
    have hi := h 0 i rfl
    have ho : ops[i]? = some ops[i] := Array.getElem?_eq_getElem hi
    have ih := ih fun p k hk => h (p + 1) k (by simpa using hk)
    intro p
    rw [List.filterMap_cons, ho]
    cases p with
    | zero => simp [ho]
    | succ p => simpa using ih p
theorem perm_region (hm : P.follows .mixedOrders = true) (hp : ProgOk P) (hcall : CallOk P call) (hch : CallH call) (hok : permOk P ops (ordOf P ops) = true) {e e' : List Value} {H' : AH} (h : permA P call ops e H = some (e', H')) :
    ∀ φ w (a : Act) (Q : Exit → Act → World → Prop), Sim P φ H w → EnvR P φ H w e a.tmps → EndOk P φ H w e' H' a.defers (Q .normal) → RegWp P ops true Q a w := by
  intro φ w a Q hs he hk
  have ho := permOk_spec hok
  obtain ⟨s, hs2, h, hchk⟩ := permA_some h
  generalize hord : ordOf P ops = ord at ho hs2 h hchk
  have hget := filterMap_ord (ops := ops) (ord := ord) fun p i hp => (ho.of p i hp).1
  have hlen : (ord.filterMap (ops[·]?)).length = ops.size := by
    have h1 : ∀ p, p < ops.size → p < (ord.filterMap (ops[·]?)).length := fun p hp => by
      have hp2 : p < ord.length := by rw [ho.len]; exact hp
      have h2 := hget p
      rw [List.getElem?_eq_getElem hp2] at h2
      have h3 := (ho.of p _ (List.getElem?_eq_getElem hp2)).1
      simp only [Option.bind_some, Array.getElem?_eq_getElem h3] at h2
      exact (List.getElem?_eq_some_iff.1 h2).1
    have h2 : (ord.filterMap (ops[·]?)).length ≤ ord.length := List.length_filterMap_le _ _
    rw [ho.len] at h2
    rcases Nat.lt_or_ge (ord.filterMap (ops[·]?)).length ops.size with h3 | h3
    · have := h1 _ h3; omega
    · omega
  obtain ⟨V, E, K, h1, h2, h3, h4, h5⟩ := trace _ _ _ _ _ h
  rw [hlen] at h3 h4
  have hat : ∀ i o, ops[i]? = some o → (ord.filterMap (ops[·]?))[posO ord i]? = some o := fun i o hi => by
    have hil := (Array.getElem?_eq_some_iff.1 hi).1
    rw [hget, (ho.at_ i hil).2]; exact hi
  -- what each operation came to, by its number
  have hW : ∀ i, (fun i => V (posO ord i)) i = V (posO ord i) := fun _ => rfl
  have step : ∀ i o, ops[i]? = some o → Stp P call ops o (E (posO ord i)) (K (posO ord i)) (V (posO ord i)) (K (posO ord i + 1)) ∧ E (posO ord i + 1) = putE (E (posO ord i)) o.dst (V (posO ord i)) := fun i o hi => h5 _ o (hat i o hi)
  have hE : ∀ p, p ≤ ops.size → E p = envOf ops (fun i => V (posO ord i)) (fun k => Nat.blt (posO ord k) p) e ops.size := by
    intro p
    induction p with
    | zero =>
      intro _
      have : ∀ n, envOf ops (fun i => V (posO ord i)) (fun k => Nat.blt (posO ord k) 0) e n = e := fun n => by
        induction n with
        | zero => rfl
        | succ n ih =>
          have hb : Nat.blt (posO ord n) 0 = false := Bool.eq_false_iff.2 (by simp)
          simp only [envOf, hb, Bool.false_eq_true, if_false]
          exact ih
      rw [this]; exact h1
    | succ p ih =>
      intro hp2
      have hp3 : p < ord.length := by rw [ho.len]; omega
      have hop := List.getElem?_eq_getElem hp3
      obtain ⟨hil, hpos⟩ := ho.of _ _ hop
      have hoi : ops[ord[p]]? = some ops[ord[p]] := Array.getElem?_eq_getElem hil
      have h6 := (step _ _ hoi).2
      rw [hpos] at h6
      rw [h6, ih (by omega)]
      have h7 := envOf_put (ops := ops) (W := fun i => V (posO ord i)) (e0 := e) ho.dist (S := fun k => Nat.blt (posO ord k) p) hil (Bool.eq_false_iff.2 (by simp [hpos]))
      have h8 : (fun k => Nat.blt (posO ord k) p || Nat.beq k ord[p]) = fun k => Nat.blt (posO ord k) p || Nat.beq k ord[p] := rfl
      have h9 : envOf ops (fun i => V (posO ord i)) (fun k => Nat.blt (posO ord k) p || Nat.beq k ord[p]) e ops.size = envOf ops (fun i => V (posO ord i)) (fun k => Nat.blt (posO ord k) (p + 1)) e ops.size := by
        have go : ∀ n, n ≤ ops.size → envOf ops (fun i => V (posO ord i)) (fun k => Nat.blt (posO ord k) p || Nat.beq k ord[p]) e n = envOf ops (fun i => V (posO ord i)) (fun k => Nat.blt (posO ord k) (p + 1)) e n := by
          intro n hn
          induction n with
          | zero => rfl
          | succ n ih =>
            have hb : (Nat.blt (posO ord n) p || Nat.beq n ord[p]) = Nat.blt (posO ord n) (p + 1) := by
              rw [Bool.eq_iff_iff]
              simp only [Bool.or_eq_true, Nat.blt_eq]
              constructor
              · rintro (h | h)
                · omega
                · have := Nat.eq_of_beq_eq_true h; rw [this, hpos]; omega
              · intro h
                by_cases hlt : posO ord n < p
                · exact .inl hlt
                · right
                  have hpn : posO ord n = p := by omega
                  have a1 := (ho.at_ n (by omega)).2
                  rw [hpn, hop] at a1
                  rw [Option.some.inj a1]; exact Nat.beq_refl _
            simp only [envOf, hb]
            rw [ih (by omega)]
        exact go _ (Nat.le_refl _)
      rw [← h9, h7]
      have hd2 : dstOf ops ord[p] = ops[ord[p]].dst := by unfold dstOf; rw [hoi]; rfl
      rw [hd2, hpos]
  -- the heaps on the way
  have hup : ∀ p d, p + d ≤ ops.size → StepH (K p) (K (p + d)) := fun p d => by
    induction d with
    | zero => intro _; exact .refl
    | succ d ih =>
      intro hd
      have hp3 : p + d < ord.length := by rw [ho.len]; omega
      obtain ⟨hil, hpos⟩ := ho.of _ _ (List.getElem?_eq_getElem hp3)
      have hoi : ops[ord[p + d]]? = some ops[ord[p + d]] := Array.getElem?_eq_getElem hil
      have hst := (step _ _ hoi).1
      rw [hpos] at hst
      refine (ih (by omega)).trans ?_
      rcases hst with ⟨_, hop⟩ | ⟨_, _, hks⟩
      · exact evOp_h hch hop
      · rw [← Nat.add_assoc, hks]; exact .refl
  have hfrom : ∀ p, p ≤ ops.size → WfH (K p) := fun p hp2 => by
    have := hup 0 p (by omega)
    rw [h2, Nat.zero_add] at this
    exact (this hs.wf).1
  have hK : ∀ p q, p ≤ q → q ≤ ops.size → WfH (K p) ∧ HStep (K p) (K q) := fun p q hpq hq => by
    have := hup p (q - p) (by omega)
    rw [show p + (q - p) = q by omega] at this
    exact ⟨hfrom p (by omega), (this (hfrom p (by omega))).2⟩
  -- what was looked at on the way
  have hsat : ∀ p, p ≤ ops.size → s[p]? = some (E p, K p) := fun p hp2 => by
    have := evTr_at (W := V) _ 0 e H s hs2 (fun i o ho2 => by rw [Nat.zero_add]; exact h5 i o ho2) h1 h2 p (by rw [hlen]; exact hp2)
    rwa [Nat.zero_add] at this
  have hchk2 : ∀ i o, ops[i]? = some o → (match lookX P o.op with | some x => stillP (K (posO ord i)) (K (hiP P ops ord i)) (rho (E (posO ord i)) x) || sameL P o.op (rho (E (posO ord i))) (K (posO ord i)) s (posO ord i) (hiP P ops ord i + 1 - posO ord i) | none => true) = true ∧ (!floatB o.op || Nat.beq (K (posO ord i + 1)).next (K (posO ord i)).next || stillN (K (posO ord i + 1)) (K (hiP P ops ord i)) (K (posO ord i)).next) = true := fun i o hoi => by
    have hil := (Array.getElem?_eq_some_iff.1 hoi).1
    obtain ⟨a1, a2⟩ := ho.at_ i hil
    have h6 := List.all_eq_true.1 hchk (posO ord i) (List.mem_range.2 a1)
    rw [a2, hsat _ (Nat.le_of_lt a1), hsat _ a1] at h6
    simp only [hoi, hsat _ (hiP_spec (P := P) (ops := ops) ord i).1] at h6
    rw [Bool.and_eq_true] at h6
    exact h6
  have hlook : ∀ i o, ops[i]? = some o → mindP P ops i = false → floatB o.op = false → K (posO ord i + 1) = K (posO ord i) ∧ (guardA ops o (E (posO ord i)) = some true → ∀ q, posO ord i ≤ q → q ≤ hiP P ops ord i → evOp P call o (rho (E (posO ord i))) (K q) = some (V (posO ord i), K q)) := fun i o hoi hmi hfl => by
    have hil := (Array.getElem?_eq_some_iff.1 hoi).1
    have a1 := (ho.at_ i hil).1
    unfold mindP at hmi
    rw [hoi] at hmi
    simp only [hfl, Bool.not_false, Bool.and_true] at hmi
    rcases (step i o hoi).1 with ⟨hg, hop⟩ | ⟨hg, _, hks⟩
    · cases hfr : freeB P o.op with
      | true =>
        obtain ⟨r, hr⟩ := evOp_free (call := call) (ρ := rho (E (posO ord i))) hfr
        rw [hr] at hop
        cases r with
        | none => cases hop
        | some y =>
          simp only [Option.map_some, Option.some.injEq, Prod.mk.injEq] at hop
          exact ⟨hop.2.symm, fun _ q _ _ => by rw [hr, ← hop.1]; rfl⟩
      | false =>
        rw [hfr] at hmi
        cases hx : lookX P o.op with
        | none => rw [hx] at hmi; cases hmi
        | some x =>
          have h6 := (hchk2 i o hoi).1
          rw [hx] at h6
          have hhs := (hiP_spec (P := P) (ops := ops) ord i).1
          have key : ∀ q, posO ord i ≤ q → q ≤ hiP P ops ord i → evOp P call o (rho (E (posO ord i))) (K q) = some (V (posO ord i), K q) ∧ K (posO ord i + 1) = K (posO ord i) := fun q hq1 hq2 => by
            rcases Bool.or_eq_true _ _ ▸ h6 with h6 | h6
            rotate_left
            · unfold sameL at h6
              split at h6
              case h_2 => cases h6
              rename_i t x' hop'
              split at h6
              case h_2 => cases h6
              rename_i a ha
              have h7 := List.all_eq_true.1 h6 (q - posO ord i) (List.mem_range.2 (by omega))
              rw [show posO ord i + (q - posO ord i) = q by omega, hsat q (Nat.le_trans hq2 hhs)] at h7
              exact load_sameQ hop' ha hop h7
            exact lookX_same hx hop fun c hc => by
              obtain ⟨b, b', g1, g2, g3, g4⟩ := stillN_spec (stillP_spec hc h6)
              have m0 := still_mid (hfrom _ (Nat.le_of_lt a1)) (hK _ _ (Nat.le_refl _) (Nat.le_of_lt a1)).2 (hK _ _ (Nat.le_trans hq1 hq2) hhs).2 g1 g2 g3 g4
              have m1 := still_mid (hfrom _ (Nat.le_of_lt a1)) (hK _ _ hq1 (Nat.le_trans hq2 hhs)).2 (hK _ _ hq2 hhs).2 g1 g2 g3 g4
              exact ⟨b, m0.1, m0.2, m1.1, m1.2⟩
          have hself : posO ord i ≤ hiP P ops ord i := (hiP_spec (P := P) (ops := ops) ord i).2 _ (Nat.le_of_lt a1) fun y hy _ hb => Nat.le_of_lt (ho.lin y i hy hil hb)
          exact ⟨(key _ (Nat.le_refl _) hself).2, fun _ q hq1 hq2 => (key q hq1 hq2).1⟩
    · exact ⟨hks, fun hg2 => by rw [hg] at hg2; cases hg2⟩
  have hflt : ∀ i o, ops[i]? = some o → floatB o.op = true → guardA ops o (E (posO ord i)) = some true → posO ord i + 1 ≤ hiP P ops ord i → ∀ b, (K (posO ord i + 1)).blk (K (posO ord i)).next = some b → ∀ q, posO ord i + 1 ≤ q → q ≤ hiP P ops ord i → (K q).blk (K (posO ord i)).next = some b := fun i o hoi hfl hg hle b hb q hq1 hq2 => by
    have hil := (Array.getElem?_eq_some_iff.1 hoi).1
    have a1 := (ho.at_ i hil).1
    have hhs := (hiP_spec (P := P) (ops := ops) ord i).1
    have h6 := (hchk2 i o hoi).2
    rw [hfl] at h6
    rcases (step i o hoi).1 with ⟨_, hop⟩ | ⟨hg2, _, _⟩
    · obtain ⟨C, te, mk, _, _, hH'⟩ := float_facts hfl hop
      have hn : Nat.beq (K (posO ord i + 1)).next (K (posO ord i)).next = false := Bool.eq_false_iff.2 fun h => by
        have := Nat.eq_of_beq_eq_true h
        rw [hH', next_alloc] at this
        omega
      rw [hn] at h6
      obtain ⟨b1, b', g1, g2, g3, g4⟩ := stillN_spec (by simpa using h6)
      rw [hb] at g1; cases g1
      exact (still_mid (hfrom _ a1) (hK _ _ hq1 (Nat.le_trans hq2 hhs)).2 (hK _ _ hq2 hhs).2 hb g2 g3 g4).1
    · rw [hg] at hg2; cases hg2
  -- up to the first of the chain
  have hB : RowKit.Below w.heap.size w { w with drawn := w.drawn + 1 } := (RowKit.Below.refl _ w).drew
  have hs1 := sim_below hs hB
  have st1 := step_below hs hB
  have hf0 : ∀ k, (Array.replicate ops.size false).getD k false = false := fun k => by
    rw [Array.getD_eq_getD_getElem?, Array.getElem?_replicate]; split <;> rfl
  have nxt : ∀ d p, p + d = ops.size → ∃ q', p ≤ q' ∧ q' ≤ ops.size ∧ (∀ y, y < ops.size → mindP P ops y = true → ¬ (p ≤ posO ord y ∧ posO ord y < q')) ∧ (q' = ops.size ∨ ∃ y, y < ops.size ∧ mindP P ops y = true ∧ posO ord y = q') := fun d => by
    induction d with
    | zero => intro p hp2; exact ⟨p, Nat.le_refl _, by omega, fun y _ _ h => by omega, .inl (by omega)⟩
    | succ d ihd =>
      intro p hp2
      by_cases hex : ∃ y, y < ops.size ∧ mindP P ops y = true ∧ posO ord y = p
      · exact ⟨p, Nat.le_refl _, by omega, fun y _ _ h => by omega, .inr hex⟩
      · obtain ⟨q', h1, h2, h3, h4⟩ := ihd (p + 1) (by omega)
        exact ⟨q', by omega, h2, fun y hy hmy h => by
          by_cases h5 : posO ord y = p
          · exact hex ⟨y, hy, hmy, h5⟩
          · exact h3 y hy hmy (by omega), h4⟩
  obtain ⟨q0, _, hq2, hq3, hq4⟩ := nxt ops.size 0 (by omega)
  have lift : ∀ (d : Nat) (w : World), d ≤ q0 → Sim P φ H w → Sim P φ (K d) w ∧ Step P φ H w φ (K d) w := by
    intro d
    induction d with
    | zero => intro w _ hs; rw [h2]; exact ⟨hs, Step.refl hs⟩
    | succ d ih =>
      intro w hle hs
      obtain ⟨hs1, st1⟩ := ih w (by omega) hs
      have hp3 : d < ord.length := by rw [ho.len]; omega
      obtain ⟨hil, hpos⟩ := ho.of _ _ (List.getElem?_eq_getElem hp3)
      have hoi : ops[ord[d]]? = some ops[ord[d]] := Array.getElem?_eq_getElem hil
      have hnm : mindP P ops ord[d] = false := by
        cases hm : mindP P ops ord[d] with
        | false => rfl
        | true => exact absurd ⟨Nat.zero_le _, by omega⟩ (hq3 _ hil hm)
      have hst := (step _ _ hoi).1
      rw [hpos] at hst
      by_cases hfl : floatB ops[ord[d]].op = true
      · rcases hst with ⟨_, hop⟩ | ⟨_, _, hks⟩
        · obtain ⟨C, te, mk, hf, hv, hH'⟩ := float_facts hfl hop
          rw [hH']
          exact ⟨sim_alloc0 hs1 ⟨rfl, rfl⟩, st1.trans hs (step_alloc0 hs1)⟩
        · rw [hks]; exact ⟨hs1, st1⟩
      · have := (hlook _ _ hoi hnm (Bool.eq_false_iff.2 hfl)).1
        rw [hpos] at this
        rw [this]; exact ⟨hs1, st1⟩
  obtain ⟨hsq, stq⟩ := lift q0 _ (Nat.le_refl _) hs1
  refine regWp_any hm (perm_any hp hcall ho (W := fun i => V (posO ord i)) (E := E) (K := K) (e0 := e) (φ0 := φ) (H0 := H) (w0 := w) (df := a.defers) (fun i o hoi => (step i o hoi).1) hE hK hlook hflt hs (by rw [h2]; exact Nat.le_refl _) (fun φ' w' a' st hs' he' hd => ?_) ops.size _ a _ φ q0 (by simp) ?_ ?_ hq2 (fun i hi hmi => ?_) hq4 (fun j o hj hf hg hlj => ?_) (st1.trans hs stq) hsq ?_ rfl)
  · rw [h4] at st hs' he'
    have hee : envOf ops (fun i => V (posO ord i)) (fun _ => true) e ops.size = e' := by
      rw [← h3, hE _ (Nat.le_refl _)]
      have go : ∀ n, n ≤ ops.size → envOf ops (fun i => V (posO ord i)) (fun _ => true) e n = envOf ops (fun i => V (posO ord i)) (fun k => Nat.blt (posO ord k) ops.size) e n := by
        intro n hn
        induction n with
        | zero => rfl
        | succ n ih =>
          have hb : Nat.blt (posO ord n) ops.size = true := by simpa using (ho.at_ n (by omega)).1
          simp only [envOf, hb]
          rw [ih (by omega)]
      exact go _ (Nat.le_refl _)
    rw [hee] at he'
    exact hk φ' w' a' st hs' he' hd
  · exact Nat.le_trans (List.length_filter_le _ _) (by simp)
  · intro j o _ hj
    rw [hf0] at hj; cases hj
  · rw [hf0]
    constructor
    · intro h; cases h
    · intro h; exact absurd ⟨Nat.zero_le _, h⟩ (hq3 i hi hmi)
  · cases hφ : φ (K (posO ord j)).next with
    | none => rfl
    | some x =>
      have h6 := hs.lt hφ
      have h7 := (hK 0 (posO ord j) (Nat.zero_le _) (Nat.le_of_lt (ho.at_ j (Array.getElem?_eq_some_iff.1 hj).1).1)).2.next
      rw [h2] at h7
      omega
  · have : ∀ n, envOf ops (fun i => V (posO ord i)) (fun k => (Array.replicate ops.size false).getD k false) e n = e := by
      intro n
      induction n with
      | zero => rfl
      | succ n ih =>
        have hf := hf0 n
        simp only [envOf, hf, Bool.false_eq_true, if_false]
        exact ih
    rw [this]
    exact (he.mono st1).mono stq
end
end Go.Proofs.YtenolmhnmcjndaaGreatDoor.Ev
