/-
  Regions that draw their order, with several operations that mind the heap: these stand in a chain; what only looks at the heap looks at what no operation of the region touches.
-/
import Derived.Test.YtaadahhjdkkkaaaGreatDoorEvDraw
import Derived.Test.YtaadahhjdkkkaaaGreatDoorEvGrown
namespace Go.Proofs.YtaadahhjdkkkaaaGreatDoor.Ev
set_option linter.unusedVariables false
set_option linter.unusedSimpArgs false
open Go

section
variable {P : Program} {call : CallA} {ops : Array Oper} {W : Nat → Value} {e0 : List Value} {H : AH}

theorem tempsG_spec (h : tempsG ops = true) {i j : Nat} {o : Oper} {t : Tmp} (hj : ops[j]? = some o) (hi : dstOf ops i = some t) (ht : t ∈ gnamesOf ops o) (hne : i ≠ j) : ((Region.before ops).getD (max i j) 0).testBit (min i j) = true := by
  have hjl : j < ops.size := (Array.getElem?_eq_some_iff.1 hj).1
  have hil : i < ops.size := by
    unfold dstOf at hi
    cases ho : ops[i]? with
    | none => rw [ho] at hi; cases hi
    | some x => exact (Array.getElem?_eq_some_iff.1 ho).1
  have h1 := List.all_eq_true.1 h j (List.mem_range.2 hjl)
  rw [hj] at h1
  have h2 := List.all_eq_true.1 h1 i (List.mem_range.2 hil)
  have hb : Nat.beq i j = false := Bool.eq_false_iff.2 fun h => hne (Nat.eq_of_beq_eq_true h)
  rw [hb, hi] at h2
  simpa [ht] using h2

theorem env_agreesG (htm : tempsG ops = true) {S : Nat → Bool} (hS : ∀ j o, ops[j]? = some o → S j = true → ∀ e, e ∈ o.after.toList → Region.binds .any e = true → S e.on = true)
    {j : Nat} {o : Oper} (hj : ops[j]? = some o) (hno : S j = false) (hpre : ∀ i, i < j → ((Region.before ops).getD j 0).testBit i = true → S i = true) {t : Tmp} (ht : t ∈ gnamesOf ops o) :
    (envOf ops W S e0 ops.size)[t]? = (envOf ops W (fun k => Nat.blt k j) e0 ops.size)[t]? := by
  refine envOf_at t _ fun k hk hd => ?_
  by_cases hkj : k = j
  · subst hkj
    rw [hno]
    exact (Bool.eq_false_iff.2 (by simp)).symm
  · have hb := tempsG_spec htm hj hd ht hkj
    by_cases hlt : k < j
    · rw [Nat.max_eq_right (by omega), Nat.min_eq_left (by omega)] at hb
      rw [hpre k hlt hb]
      simp [hlt]
    · rw [Nat.max_eq_left (by omega), Nat.min_eq_right (by omega)] at hb
      have : S k = false := by
        cases hs : S k with
        | false => rfl
        | true => rw [before_closed S hS k j hb hs] at hno; cases hno
      rw [this]
      exact (Bool.eq_false_iff.2 (by simp; omega)).symm

/-- The heap behind a set of operations. -/
def hAt (mind : Nat → Bool) (K : Nat → AH) (S : Nat → Bool) : Nat → AH
  | 0 => K 0
  | n + 1 => bif mind n && S n then K (n + 1) else hAt mind K S n
theorem hAt_some (mind : Nat → Bool) (K : Nat → AH) (S : Nat → Bool) : ∀ n, ∃ j, j ≤ n ∧ hAt mind K S n = K j ∧ (∀ k, k < n → mind k = true → S k = true → k < j) ∧ (j = 0 ∨ ∃ m, j = m + 1 ∧ mind m = true ∧ S m = true)
  | 0 => ⟨0, Nat.le_refl _, rfl, fun k hk => absurd hk (Nat.not_lt_zero k), .inl rfl⟩
  | n + 1 => by
    obtain ⟨j, hj, e, h1, h2⟩ := hAt_some mind K S n
    unfold hAt
    cases hms : mind n && S n with
    | true =>
      rw [Bool.and_eq_true] at hms
      exact ⟨n + 1, Nat.le_refl _, rfl, fun k hk _ _ => hk, .inr ⟨n, rfl, hms.1, hms.2⟩⟩
    | false =>
      refine ⟨j, by omega, e, fun k hk hm hs => ?_, h2⟩
      by_cases hkn : k = n
      · subst hkn; rw [hm, hs] at hms; cases hms
      · exact h1 k (by omega) hm hs
theorem hAt_skip {mind : Nat → Bool} {K : Nat → AH} {S : Nat → Bool} {i : Nat} : ∀ d, (∀ k, i ≤ k → k < i + d → mind k = true → S k = false) → hAt mind K S (i + d) = hAt mind K S i
  | 0, _ => rfl
  | d + 1, h => by
    rw [← Nat.add_assoc]
    unfold hAt
    have hb : (mind (i + d) && S (i + d)) = false := by
      cases hm : mind (i + d) with
      | false => rfl
      | true => rw [h (i + d) (by omega) (by omega) hm]; rfl
    rw [hb]
    show hAt mind K S (i + d) = _
    rw [hAt_skip d fun k h1 h2 h3 => h k h1 (by omega) h3]
    cases i <;> rfl
theorem hAt_pre {mind : Nat → Bool} {K : Nat → AH} {S : Nat → Bool} : ∀ i, (∀ j, j < i → mind j = false → K (j + 1) = K j) → (∀ j, j < i → mind j = true → S j = true) → hAt mind K S i = K i
  | 0, _, _ => rfl
  | i + 1, h1, h2 => by
    unfold hAt
    cases hm : mind i with
    | true => rw [h2 i (Nat.lt_succ_self i) hm]; rfl
    | false =>
      show hAt mind K S i = _
      rw [hAt_pre i (fun j hj => h1 j (by omega)) (fun j hj => h2 j (by omega)), h1 i (Nat.lt_succ_self i) hm]
theorem hAt_congr {mind : Nat → Bool} {K : Nat → AH} {S S' : Nat → Bool} : ∀ n, (∀ k, k < n → mind k = true → S k = S' k) → hAt mind K S n = hAt mind K S' n
  | 0, _ => rfl
  | n + 1, h => by
    unfold hAt
    rw [hAt_congr n fun k hk => h k (by omega)]
    cases hm : mind n with
    | false => rfl
    | true => rw [h n (Nat.lt_succ_self n) hm]

/-- What is as it was at the end was so all the way. -/
theorem still_mid {H Hm He : AH} (hw : WfH H) (s1 : HStep H Hm) (s2 : HStep Hm He) {c : Nat} {b b' : Blk} (hb : H.blk c = some b) (hb' : He.blk c = some b') (hv : b'.ver = b.ver) (hl : He.live c b' = true) : Hm.blk c = some b ∧ Hm.live c b = true := by
  obtain ⟨b1, h1, _, _, _, _, h6⟩ := s1.blk c b hb
  obtain ⟨b2, k1, _, _, _, k5, k6⟩ := s2.blk c b1 h1
  rw [hb'] at k1
  obtain rfl := Option.some.inj k1
  have hlt := hw.ver c b hb
  have hc := s1.clock
  rcases h6 with ⟨_, rfl⟩ | h6
  · exact ⟨h1, k5 hl⟩
  · rcases k6 with ⟨k6, _⟩ | k6 <;> omega

theorem load_same {t : TypeId} {x : Operand} {o : Oper} {ρ : Operand → Value} {H1 H2 : AH} {v : Value} {H' : AH} (ho : o.op = .load t x) (h : evOp P call o ρ H1 = some (v, H'))
    (hs : ∀ a, ρ x = .pointer (some a) → ∃ b, H1.blk a.block = some b ∧ H1.live a.block b = true ∧ H2.blk a.block = some b ∧ H2.live a.block b = true) : evOp P call o ρ H2 = some (v, H2) ∧ H' = H1 := by
  unfold evOp at h ⊢
  simp only [ho] at h ⊢
  split at h
  case h_2 => cases h
  rename_i a hx
  obtain ⟨b, g1, g2, g3, g4⟩ := hs a hx
  have hc : H2.cells a.block = H1.cells a.block := by unfold AH.cells; rw [g1, g3]; simp only [g2, g4]
  have hl : loadA P H2 t a = loadA P H1 t a := by unfold loadA; rw [hc]
  cases hv : loadA P H1 t a with
  | none => rw [hv] at h; cases h
  | some y =>
    rw [hv] at h
    simp only [Option.map_some, Option.some.injEq, Prod.mk.injEq] at h
    obtain ⟨rfl, rfl⟩ := h
    refine ⟨?_, rfl⟩
    simp only [hx, hl, hv, Option.map_some]

theorem look_same {t : TypeId} {x k : Operand} {ok : Bool} {o : Oper} {ρ : Operand → Value} {H1 H2 : AH} {v : Value} {H' : AH} (ho : o.op = .lookup t x k ok) (h : evOp P call o ρ H1 = some (v, H'))
    (hs : ∀ a, ρ x = .map (some a) → ∃ b, H1.blk a = some b ∧ H1.live a b = true ∧ H2.blk a = some b ∧ H2.live a b = true) : evOp P call o ρ H2 = some (v, H2) ∧ H' = H1 := by
  unfold evOp at h ⊢
  simp only [ho] at h ⊢
  have hm : mapRow H2 (ρ x) = mapRow H1 (ρ x) := by
    unfold mapRow
    split
    · rfl
    · rename_i r hx
      obtain ⟨b, g1, g2, g3, g4⟩ := hs r hx
      rw [g1, g3]
      simp only [g2, g4]
    · rfl
  have hl : lookupA P H2 t (ρ x) (ρ k) ok = lookupA P H1 t (ρ x) (ρ k) ok := by unfold lookupA; rw [hm]
  cases hv : lookupA P H1 t (ρ x) (ρ k) ok with
  | none => rw [hv] at h; cases h
  | some y =>
    rw [hv] at h
    simp only [Option.map_some, Option.some.injEq, Prod.mk.injEq] at h
    obtain ⟨rfl, rfl⟩ := h
    refine ⟨?_, rfl⟩
    simp only [hl, hv, Option.map_some]
theorem many_any (hp : ProgOk P) (hcall : CallOk P call) (htm : tempsG ops = true) (hbk : backB ops = true) (hsel : ∀ o, o ∈ ops → ∀ cs b, o.op ≠ .select cs b) {mind : Nat → Bool} {E : Nat → List Value} {K : Nat → AH} (hK0 : K 0 = H)
    (hch : ∀ i j, i < j → j < ops.size → mind i = true → mind j = true → ((Region.before ops).getD j 0).testBit i = true)
    (hE : ∀ i o, ops[i]? = some o → Stp P call ops o (E i) (K i) (W i) (K (i + 1)) ∧ E i = envOf ops W (fun _ => true) e0 i ∧ (mind i = false → K (i + 1) = K i ∧ (guardA ops o (E i) = some true → ∀ j, j ≤ ops.size → (∀ k, k < i → mind k = true → ((Region.before ops).getD i 0).testBit k = true → k < j) → (∀ k, i < k → k < ops.size → mind k = true → ((Region.before ops).getD k 0).testBit i = true → j ≤ k) → evOp P call o (rho (E i)) (K j) = some (W i, K j))))
    {φ0 : Phi} {w0 : World} {df : List Deferred} {Q : Exit → Act → World → Prop} (hs0 : Sim P φ0 H w0)
    (hk : ∀ φ w a, Step P φ0 H w0 φ (K ops.size) w → Sim P φ (K ops.size) w → EnvR P φ (K ops.size) w (envOf ops W (fun _ => true) e0 ops.size) a.tmps → a.defers = df → Q .normal a w) :
    ∀ (fuel : Nat) (listed : Array Bool) (a : Act) (w : World) (φ : Phi), listed.size = ops.size → ((List.range ops.size).filter fun k => !listed.getD k false).length ≤ fuel →
      (∀ j o, ops[j]? = some o → listed.getD j false = true → ∀ e, e ∈ o.after.toList → Region.binds .any e = true → listed.getD e.on false = true) →
      Step P φ0 H w0 φ (hAt mind K (fun k => listed.getD k false) ops.size) w → Sim P φ (hAt mind K (fun k => listed.getD k false) ops.size) w → EnvR P φ (hAt mind K (fun k => listed.getD k false) ops.size) w (envOf ops W (fun k => listed.getD k false) e0 ops.size) a.tmps → a.defers = df → wpAny P .any ops Q fuel listed a w := by
  have hKs : ∀ j, j < ops.size → mind j = false → K (j + 1) = K j := fun j hj hm => ((hE j ops[j] (Array.getElem?_eq_getElem hj)).2.2 hm).1
  have fin : ∀ (listed : Array Bool) (a : Act) (w : World) (φ : Phi), listed.size = ops.size → Region.ready .any ops listed = [] → Step P φ0 H w0 φ (hAt mind K (fun k => listed.getD k false) ops.size) w → Sim P φ (hAt mind K (fun k => listed.getD k false) ops.size) w → EnvR P φ (hAt mind K (fun k => listed.getD k false) ops.size) w (envOf ops W (fun k => listed.getD k false) e0 ops.size) a.tmps → a.defers = df → Q .normal a w := by
    intro listed a w φ hl hr st hs he hd
    have hall := ready_nil hbk hl hr
    have hh : hAt mind K (fun k => listed.getD k false) ops.size = K ops.size := hAt_pre ops.size hKs fun j hj _ => hall j hj
    rw [hh] at st hs he
    refine hk φ w a st hs ?_ hd
    have : envOf ops W (fun k => listed.getD k false) e0 ops.size = envOf ops W (fun _ => true) e0 ops.size := by
      have go : ∀ n, n ≤ ops.size → envOf ops W (fun k => listed.getD k false) e0 n = envOf ops W (fun _ => true) e0 n := by
        intro n hn
        induction n with
        | zero => rfl
        | succ n ih => simp only [envOf, hall n (by omega), if_true]; rw [ih (by omega)]
      exact go _ (Nat.le_refl _)
    rwa [this] at he
  intro fuel
  induction fuel with
  | zero =>
    intro listed a w φ hl hc hS st hs he hd
    have hr : Region.ready .any ops listed = [] := by
      cases hr : Region.ready .any ops listed with
      | nil => rfl
      | cons i r =>
        have hm := ready_spec (show i ∈ Region.ready .any ops listed by rw [hr]; simp)
        have : i ∈ (List.range ops.size).filter fun k => !listed.getD k false := by
          rw [List.mem_filter, List.mem_range]
          refine ⟨hm.1, ?_⟩
          have h0 := hm.2.1
          rw [Array.getD_eq_getD_getElem?, Array.getElem?_eq_getElem (by omega)] at h0 ⊢
          simpa using h0
        have hnil := List.length_eq_zero_iff.1 (Nat.le_zero.1 hc)
        rw [hnil] at this
        cases this
    exact ⟨hr, fin listed a w φ hl hr st hs he hd⟩
  | succ fuel ih =>
    intro listed a w φ hl hc hS st hs he hd
    refine ⟨fun hr => fin listed a w φ hl hr st hs he hd, fun i hi => ?_⟩
    obtain ⟨hil, hno, o, ho, hpre⟩ := ready_spec hi
    have hno' : listed.getD i false = false := by
      rw [Array.getD_eq_getD_getElem?, Array.getElem?_eq_getElem (by omega)] at hno ⊢
      exact hno
    have hmem : o ∈ ops := Array.mem_of_getElem? ho
    have hcl := closed_set hl hil hS ho hpre
    have hfun : (fun k => (listed.setIfInBounds i true).getD k false) = fun k => listed.getD k false || Nat.beq k i := by
      funext k
      rw [Array.getD_eq_getD_getElem?, Array.getElem?_setIfInBounds]
      by_cases hik : i = k
      · subst hik
        rw [if_pos rfl, if_pos (by omega), Nat.beq_refl]
        simp
      · have hb : Nat.beq k i = false := Bool.eq_false_iff.2 fun h => hik (Nat.eq_of_beq_eq_true h).symm
        rw [if_neg hik, hb, Bool.or_false, ← Array.getD_eq_getD_getElem?]
    have hii : (listed.setIfInBounds i true).getD i false = true := by
      have h4 := congrFun hfun i
      rw [h4, Nat.beq_refl]
      simp
    -- what stands ahead is done
    have hpre2 : ∀ k, k < i → ((Region.before ops).getD i 0).testBit k = true → listed.getD k false = true := fun k hki hb => by
      have h2 := before_closed (fun k => (listed.setIfInBounds i true).getD k false) hcl i k hb hii
      have h4 := congrFun hfun k
      rw [h4] at h2
      have hb2 : Nat.beq k i = false := Bool.eq_false_iff.2 fun h => by have := Nat.eq_of_beq_eq_true h; omega
      simpa [hb2] using h2
    obtain ⟨hstp, hEi, hfree⟩ := hE i o ho
    -- the operation finds its operands
    have hag : ∀ t, t ∈ gnamesOf ops o → (envOf ops W (fun k => listed.getD k false) e0 ops.size)[t]? = (E i)[t]? := fun t ht => by
      rw [env_agreesG htm hS ho hno' hpre2 ht, envOf_lt i ops.size (by omega), hEi]
    have hgd : guardA ops o (envOf ops W (fun k => listed.getD k false) e0 ops.size) = guardA ops o (E i) := by
      unfold guardA
      cases hg : o.guard with
      | none => rfl
      | some p =>
        obtain ⟨j, want⟩ := p
        simp only
        cases hd2 : (ops[j]?).bind (·.dst) with
        | none => rfl
        | some t =>
          have := hag t (List.mem_append_right _ (by rw [hg]; show t ∈ (dstOf ops j).toList; unfold dstOf; rw [hd2]; simp))
          simp only [Option.bind_some, this]
    have hev : ∀ H2, evOp P call o (rho (envOf ops W (fun k => listed.getD k false) e0 ops.size)) H2 = evOp P call o (rho (E i)) H2 := fun H2 =>
      evOp_names (hsel o hmem) fun t ht => hag t (List.mem_append_left _ ht)
    -- the heap, ahead and behind
    have hnow : mind i = true → hAt mind K (fun k => listed.getD k false) ops.size = K i := fun hm => by
      have e1 : hAt mind K (fun k => listed.getD k false) (i + (ops.size - i)) = hAt mind K (fun k => listed.getD k false) i := hAt_skip _ fun k h1 h2 h3 => by
        cases hk2 : listed.getD k false with
        | false => rfl
        | true =>
          by_cases hki : k = i
          · subst hki; rw [hno'] at hk2; cases hk2
          · have hb := hch i k (by omega) (by omega) hm h3
            have := before_closed (fun k => listed.getD k false) hS k i hb hk2
            rw [hno'] at this; cases this
      rw [show i + (ops.size - i) = ops.size by omega] at e1
      rw [e1]
      exact hAt_pre i (fun j hj hmj => hKs j (by omega) hmj) fun j hj hmj => hpre2 j hj (hch j i hj hil hmj hm)
    have hthen : hAt mind K (fun k => (listed.setIfInBounds i true).getD k false) ops.size = if mind i = true then K (i + 1) else hAt mind K (fun k => listed.getD k false) ops.size := by
      by_cases hm : mind i = true
      · rw [if_pos hm, hfun]
        have e1 : hAt mind K (fun k => listed.getD k false || Nat.beq k i) ((i + 1) + (ops.size - (i + 1))) = hAt mind K (fun k => listed.getD k false || Nat.beq k i) (i + 1) := hAt_skip _ fun k h1 h2 h3 => by
          have hb2 : Nat.beq k i = false := Bool.eq_false_iff.2 fun h => by have := Nat.eq_of_beq_eq_true h; omega
          rw [hb2, Bool.or_false]
          cases hk2 : listed.getD k false with
          | false => rfl
          | true =>
            have hb := hch i k (by omega) (by omega) hm h3
            have := before_closed (fun k => listed.getD k false) hS k i hb hk2
            rw [hno'] at this; cases this
        rw [show (i + 1) + (ops.size - (i + 1)) = ops.size by omega] at e1
        rw [e1]
        unfold hAt
        rw [hm, Nat.beq_refl, Bool.or_true]
        rfl
      · rw [if_neg hm, hfun]
        refine (hAt_congr _ fun k _ hmk => ?_).symm
        have hb2 : Nat.beq k i = false := Bool.eq_false_iff.2 fun h => by have := Nat.eq_of_beq_eq_true h; subst this; exact hm hmk
        rw [hb2, Bool.or_false]
    have hadd : envOf ops W (fun k => (listed.setIfInBounds i true).getD k false) e0 ops.size = putE (envOf ops W (fun k => listed.getD k false) e0 ops.size) o.dst (W i) := by
      have hd2 : dstOf ops i = o.dst := by unfold dstOf; rw [ho]; rfl
      rw [hfun, ← hd2]
      refine envOf_add i hno' ops.size hil fun k hik hkn hsk => ?_
      cases hdi : dstOf ops i with
      | none => exact .inl rfl
      | some t =>
        refine .inr fun heq => ?_
        have hko : ops[k]? = some ops[k] := Array.getElem?_eq_getElem hkn
        have hdk : ops[k].dst = some t := by have : dstOf ops k = ops[k].dst := by unfold dstOf; rw [hko]; rfl
                                             rw [← this, ← heq]
        have hb := tempsG_spec htm hko hdi (show t ∈ gnamesOf ops ops[k] from List.mem_append_left _ (by unfold namesOf; rw [hdk]; simp)) (by omega)
        rw [Nat.max_eq_right (by omega), Nat.min_eq_left (by omega)] at hb
        have h3 := before_closed (fun k => listed.getD k false) hS k i hb hsk
        rw [hno'] at h3
        cases h3
    have hlt : ((List.range ops.size).filter fun k => !(listed.setIfInBounds i true).getD k false).length < ((List.range ops.size).filter fun k => !listed.getD k false).length := by
      refine filter_lt _ _ (fun x hx => ?_) _ i (List.mem_range.2 hil) (by simp [hno']) (by simp [hii])
      have h4 := congrFun hfun x
      rw [h4] at hx
      simp at hx
      simp [hx.1]
    unfold wpOp
    rw [ho]
    simp only
    rcases hstp with ⟨hgt, hop⟩ | ⟨hgf, hwu, hks⟩
    · have hw := guard_wanted he (hgd.trans hgt)
      rw [if_pos hw]
      have hop2 : evOp P call o (rho (envOf ops W (fun k => listed.getD k false) e0 ops.size)) (hAt mind K (fun k => listed.getD k false) ops.size) = some (W i, hAt mind K (fun k => (listed.setIfInBounds i true).getD k false) ops.size) := by
        rw [hev, hthen]
        by_cases hm : mind i = true
        · rw [if_pos hm, hnow hm]; exact hop
        · rw [if_neg hm]
          obtain ⟨j, hj, hj2, hj3, hj4⟩ := hAt_some mind K (fun k => listed.getD k false) ops.size
          rw [hj2]
          refine (hfree (Bool.eq_false_iff.2 hm)).2 hgt j hj (fun k hk1 hk2 hk3 => hj3 k (by omega) hk2 (hpre2 k hk1 hk3)) fun k hk1 hk2 hk3 hk4 => ?_
          rcases hj4 with rfl | ⟨m, rfl, hm1, hm2⟩
          · exact Nat.zero_le _
          · refine Nat.le_of_not_lt fun hlt => ?_
            have hkl : listed.getD k false = true := by
              by_cases hkm : k = m
              · subst hkm; exact hm2
              · exact before_closed (fun k => listed.getD k false) hS m k (hch k m (by omega) (by omega) hk3 hm1) hm2
            have := before_closed (fun k => listed.getD k false) hS k i hk4 hkl
            rw [hno'] at this; cases this
      refine .inl (evOp_sound hp hcall hs (fun x => he.rho x) hop2 _ Q fun v' w' ⟨φ', st', hs', hv'⟩ => ?_)
      refine ih _ _ _ φ' (by simpa using hl) (by omega) hcl (st.trans hs0 st') hs' ?_ (by rw [put_defers', hd])
      rw [hadd]
      exact (he.mono st').put o.dst hv'
    · have hw := guard_wanted he (hgd.trans hgf)
      rw [if_neg (by rw [hw]; simp)]
      have hsame : hAt mind K (fun k => (listed.setIfInBounds i true).getD k false) ops.size = hAt mind K (fun k => listed.getD k false) ops.size := by
        rw [hthen]
        by_cases hm : mind i = true
        · rw [if_pos hm, hnow hm, hks]
        · rw [if_neg hm]
      refine ih _ _ _ φ (by simpa using hl) (by omega) hcl (by rw [hsame]; exact st) (by rw [hsame]; exact hs) ?_ (by rw [put_defers', hd])
      rw [hadd, hsame, hwu]
      exact he.put o.dst val_undef

theorem env_keep {E : Nat → List Value} {t : Tmp} (h : ∀ i o, ops[i]? = some o → E (i + 1) = putE (E i) o.dst (W i)) {i : Nat} : ∀ d, i + d ≤ ops.size → (∀ k, i ≤ k → k < ops.size → dstOf ops k ≠ some t) → (E (i + d))[t]? = (E i)[t]?
  | 0, _, _ => rfl
  | d + 1, hd, hn => by
    have hlt : i + d < ops.size := by omega
    have ho : ops[i + d]? = some ops[i + d] := Array.getElem?_eq_getElem hlt
    rw [← Nat.add_assoc, h _ _ ho, putE_get_ne (by have := hn (i + d) (by omega) hlt; unfold dstOf at this; rw [ho] at this; exact this)]
    exact env_keep h d (by omega) hn

theorem many_region (hm : P.follows .mixedOrders = true) (hp : ProgOk P) (hcall : CallOk P call) (hch : CallH call) (hok : manyReg P ops = true) {e e' : List Value} {H' : AH} (h : evOps P call ops ops.toList e H = some (e', H')) (hst : stillAll ops e' H H' = true) :
    ∀ id φ w (a : Act) (Q : Exit → Act → World → Prop), Sim P φ H w → EnvR P φ H w e a.tmps → EndOk P φ H w e' H' a.defers (Q .normal) → (Code.region id ops true).wp P Q a w := by
  intro id φ w a Q hs he hk
  unfold manyReg at hok
  simp only [Bool.and_eq_true] at hok
  obtain ⟨⟨⟨⟨htm, hbk⟩, hcn⟩, hld⟩, hsl⟩ := hok
  have hsel : ∀ o, o ∈ ops → ∀ cs b, o.op ≠ .select cs b := fun o ho cs b e => by
    have := List.all_eq_true.1 hsl o (by simpa using ho)
    rw [e] at this
    simp [selB] at this
  obtain ⟨W, E, K, h1, h2, h3, h4, h5⟩ := trace _ _ _ _ _ h
  have hlen : ops.toList.length = ops.size := by simp
  rw [hlen] at h3 h4
  have step : ∀ i o, ops[i]? = some o → Stp P call ops o (E i) (K i) (W i) (K (i + 1)) ∧ E (i + 1) = putE (E i) o.dst (W i) := fun i o ho => h5 i o (by rw [Array.getElem?_toList]; exact ho)
  have hE : ∀ i, i ≤ ops.size → E i = envOf ops W (fun _ => true) e i := fun i hi => trace_env h1 (fun i o ho => (step i o ho).2) hi
  -- the heaps on the way
  have hup : ∀ i d, i + d ≤ ops.size → StepH (K i) (K (i + d)) := fun i d => by
    induction d with
    | zero => intro _; exact .refl
    | succ d ih =>
      intro hd
      have hlt : i + d < ops.size := by omega
      have ho : ops[i + d]? = some ops[i + d] := Array.getElem?_eq_getElem hlt
      refine (ih (by omega)).trans ?_
      rcases (step _ _ ho).1 with ⟨_, hop⟩ | ⟨_, _, hks⟩
      · exact evOp_h hch hop
      · rw [← Nat.add_assoc, hks]; exact .refl
  have hfrom : ∀ i, i ≤ ops.size → WfH (K i) ∧ HStep H (K i) := fun i hi => by
    have := hup 0 i (by omega)
    rw [h2, Nat.zero_add] at this
    exact this hs.wf
  have hto : ∀ i, i ≤ ops.size → HStep (K i) H' := fun i hi => by
    have := hup i (ops.size - i) (by omega)
    rw [show i + (ops.size - i) = ops.size by omega, h4] at this
    exact (this (hfrom i hi).1).2
  have hload : ∀ i o t x, ops[i]? = some o → o.op = .load t x → ∀ ad, rho (E i) x = .pointer (some ad) → ∃ b, ∀ j, j ≤ ops.size → (K j).blk ad.block = some b ∧ (K j).live ad.block b = true := fun i o t x ho hx ad had => by
    have hil : i < ops.size := (Array.getElem?_eq_some_iff.1 ho).1
    have hrho : rho e' x = rho (E i) x := by
      cases x with
      | tmp tm =>
        have hl2 := List.all_eq_true.1 hld i (List.mem_range.2 hil)
        rw [ho] at hl2
        simp only [hx] at hl2
        have := env_keep (t := tm) (fun i o ho => (step i o ho).2) (i := i) (ops.size - i) (by omega) fun k hk1 hk2 hd => by
          have hl3 := List.all_eq_true.1 hl2 k (List.mem_range.2 hk2)
          rw [hd] at hl3
          simp at hl3
          omega
        rw [show i + (ops.size - i) = ops.size by omega, h3] at this
        show e'.getD tm undef = (E i).getD tm undef
        rw [List.getD_eq_getElem?_getD, List.getD_eq_getElem?_getD, this]
      | _ => rfl
    have hst2 := List.all_eq_true.1 hst o (by simpa using Array.mem_of_getElem? ho)
    rw [hx] at hst2
    simp only [hrho, had, stillB] at hst2
    cases hb : H.blk ad.block with
    | none => rw [hb] at hst2; cases hst2
    | some b =>
      cases hb2 : H'.blk ad.block with
      | none => rw [hb, hb2] at hst2; cases hst2
      | some b' =>
        rw [hb, hb2] at hst2
        simp only [Bool.and_eq_true] at hst2
        exact ⟨b, fun j hj => still_mid hs.wf (hfrom j hj).2 (hto j hj) hb hb2 (Nat.eq_of_beq_eq_true hst2.1) hst2.2⟩
  have hB : RowKit.Below w.heap.size w { w with drawn := w.drawn + 1 } := (RowKit.Below.refl _ w).drew
  have hs1 := sim_below hs hB
  have st1 := step_below hs hB
  have hf0 : ∀ k, (Array.replicate ops.size false).getD k false = false := fun k => by
    rw [Array.getD_eq_getD_getElem?, Array.getElem?_replicate]; split <;> rfl
  have hh0 : hAt (mindB P ops) K (fun k => (Array.replicate ops.size false).getD k false) ops.size = H := by
    have := hAt_skip (mind := mindB P ops) (K := K) (S := fun k => (Array.replicate ops.size false).getD k false) (i := 0) ops.size fun k _ _ _ => hf0 k
    rw [Nat.zero_add] at this
    rw [this]; exact h2
  refine wp_region_any hm (many_any hp hcall htm hbk hsel (mind := mindB P ops) (E := E) (W := W) (K := K) (e0 := e) (φ0 := φ) (w0 := w) (df := a.defers) h2 (fun i j hij hj hmi hmj => ?_) (fun i o ho => ⟨(step i o ho).1, hE i (by have := (Array.getElem?_eq_some_iff.1 ho).1; omega), fun hmi => ?_⟩) hs (fun φ' w' a' st hs' he' hd => ?_) ops.size _ a _ φ (by simp) ?_ ?_ ?_ ?_ ?_ rfl)
  · have h6 := List.all_eq_true.1 hcn j (List.mem_range.2 hj)
    rw [hmj] at h6
    have h7 := List.all_eq_true.1 h6 i (List.mem_range.2 hij)
    rw [hmi] at h7
    exact h7
  · unfold mindB at hmi
    rw [ho] at hmi
    simp only at hmi
    have hcase : freeB P o.op = true ∨ loadB o.op = true := by
      cases hf : freeB P o.op with
      | true => exact .inl rfl
      | false =>
        cases hl : loadB o.op with
        | true => exact .inr rfl
        | false => rw [hf, hl] at hmi; cases hmi
    have hstp := (step i o ho).1
    rcases hcase with hf | hl
    · obtain ⟨r, hr⟩ := evOp_free (call := call) (ρ := rho (E i)) hf
      rcases hstp with ⟨hg, hop⟩ | ⟨hg, _, hks⟩
      · rw [hr] at hop
        cases r with
        | none => cases hop
        | some y =>
          simp only [Option.map_some, Option.some.injEq, Prod.mk.injEq] at hop
          exact ⟨hop.2.symm, fun _ j _ _ _ => by rw [hr, ← hop.1]; rfl⟩
      · exact ⟨hks, fun hg2 => by rw [hg] at hg2; cases hg2⟩
    · have hil : i < ops.size := (Array.getElem?_eq_some_iff.1 ho).1
      rcases hstp with ⟨hg, hop⟩ | ⟨hg, _, hks⟩
      · cases hx : o.op with
        | load t x =>
          have key : ∀ j, j ≤ ops.size → evOp P call o (rho (E i)) (K j) = some (W i, K j) ∧ K (i + 1) = K i := fun j hj =>
            load_same hx hop fun ad had => by
              obtain ⟨b, hb⟩ := hload i o t x ho hx ad had
              exact ⟨b, (hb i (by omega)).1, (hb i (by omega)).2, (hb j hj).1, (hb j hj).2⟩
          exact ⟨(key i (by omega)).2, fun _ j hj _ _ => (key j hj).1⟩
        | _ => rw [hx] at hl; cases hl
      · exact ⟨hks, fun hg2 => by rw [hg] at hg2; cases hg2⟩
  · rw [h4] at st hs' he'
    rw [← hE _ (Nat.le_refl _), h3] at he'
    exact hk φ' w' a' st hs' he' hd
  · exact Nat.le_trans (List.length_filter_le _ _) (by simp)
  · intro j o _ hj
    rw [hf0] at hj; cases hj
  · rw [hh0]; exact st1
  · rw [hh0]; exact hs1
  · have : ∀ n, envOf ops W (fun k => (Array.replicate ops.size false).getD k false) e n = e := by
      intro n
      induction n with
      | zero => rfl
      | succ n ih =>
        have hf := hf0 n
        simp only [envOf, hf, Bool.false_eq_true, if_false]
        exact ih
    rw [this, hh0]
    exact he.mono st1

theorem evTr_at {E : Nat → List Value} {K : Nat → AH} : ∀ (l : List Oper) (k : Nat) (e : List Value) (H : AH) (s : List (List Value × AH)), evTr P call ops l e H = some s →
    (∀ i o, l[i]? = some o → Stp P call ops o (E (k + i)) (K (k + i)) (W (k + i)) (K (k + i + 1)) ∧ E (k + i + 1) = putE (E (k + i)) o.dst (W (k + i))) → E k = e → K k = H → ∀ i, i ≤ l.length → s[i]? = some (E (k + i), K (k + i))
  | [], k, e, H, s, h, _, he, hk, i, hi => by
    simp only [evTr] at h
    cases h
    have : i = 0 := by simpa using hi
    subst this
    simp [he, hk]
  | o :: r, k, e, H, s, h, hst, he, hk, i, hi => by
    obtain ⟨h0, h0'⟩ := hst 0 o rfl
    rw [Nat.add_zero] at h0 h0'
    have tl : ∀ s' v H1, evTr P call ops r (putE e o.dst v) H1 = some s' → W k = v → K (k + 1) = H1 → s = (e, H) :: s' → s[i]? = some (E (k + i), K (k + i)) := fun s' v H1 hs' hv hk1 hss => by
      subst hss
      cases i with
      | zero => simp [he, hk]
      | succ i =>
        have := evTr_at r (k + 1) _ _ s' hs' (fun j o ho => by
          have := hst (j + 1) o (by simpa using ho)
          rw [show k + 1 + j = k + (j + 1) by omega]
          exact this) (by rw [h0', Nat.add_zero, he, hv]) hk1 i (by simpa using hi)
        rw [show k + 1 + i = k + (i + 1) by omega] at this
        simpa using this
    unfold evTr at h
    rcases h0 with ⟨hg, hop⟩ | ⟨hg, hw, hks⟩
    · rw [he] at hg
      rw [he, hk] at hop
      rw [hg, hop] at h
      simp only at h
      cases h2 : evTr P call ops r (putE e o.dst (W k)) (K (k + 1)) with
      | none => rw [h2] at h; cases h
      | some s' =>
        rw [h2] at h
        simp only [Option.map_some, Option.some.injEq] at h
        exact tl s' _ _ h2 rfl rfl h.symm
    · rw [he] at hg
      rw [hg] at h
      simp only at h
      cases h2 : evTr P call ops r (putE e o.dst undef) H with
      | none => rw [h2] at h; cases h
      | some s' =>
        rw [h2] at h
        simp only [Option.map_some, Option.some.injEq] at h
        exact tl s' _ _ h2 hw (hks.trans hk) h.symm

/-- Of a call: some functions leave the heap alone, whatever lies in it. -/
def CallFlat (ff : FuncId → Bool) (call : CallA) : Prop := ∀ f args, ff f = true → ∃ r : Option Value, ∀ H, call f args H = r.map (·, H)
theorem evOp_flatCall {ff : FuncId → Bool} {o : Oper} {ρ : Operand → Value} (hfl : CallFlat ff call) (hρ : ∀ f, ρ (.func f) = .func (.func f) #[] #[]) (h : flatCall ff o.op = true) : ∃ r : Option Value, ∀ H, evOp P call o ρ H = r.map (·, H) := by
  unfold flatCall at h
  split at h
  case h_2 => cases h
  rename_i c ho
  split at h
  case h_2 => cases h
  rename_i f hc
  obtain ⟨r, hr⟩ := hfl f (c.args.toList.map ρ ++ (#[] : Array Value).toList) h
  refine ⟨r, fun H => ?_⟩
  unfold evOp
  simp only [ho]
  unfold callA
  simp only [hc, hρ]
  exact hr H

theorem winLo_spec (mind : Nat → Bool) (ops : Array Oper) (i : Nat) : winLo mind ops i ≤ i ∧ ∀ j, (∀ k, k < i → mind k = true → ((Region.before ops).getD i 0).testBit k = true → k < j) → winLo mind ops i ≤ j := by
  unfold winLo
  simp only
  generalize hb : (Region.before ops).getD i 0 = b
  have go : ∀ (l : List Nat) (m0 : Nat) (p : Nat → Prop), p m0 → (∀ k, k ∈ l → mind k = true → b.testBit k = true → p (k + 1)) → p (l.foldl (fun m k => if (mind k && b.testBit k) = true then k + 1 else m) m0) := by
    intro l
    induction l with
    | nil => intro m0 p h _; exact h
    | cons k l ih =>
      intro m0 p h hl
      rw [List.foldl_cons]
      refine ih _ p ?_ fun k hk => hl k (List.mem_cons_of_mem _ hk)
      by_cases hc : (mind k && b.testBit k) = true
      · rw [if_pos hc]
        rw [Bool.and_eq_true] at hc
        exact hl k List.mem_cons_self hc.1 hc.2
      · rw [if_neg hc]; exact h
  refine ⟨go _ _ (fun m => m ≤ i) (Nat.zero_le _) fun k hk _ _ => ?_, fun j hj => go _ _ (fun m => m ≤ j) (Nat.zero_le _) fun k hk h1 h2 => ?_⟩
  · rw [List.mem_range] at hk; omega
  · rw [List.mem_range] at hk; have := hj k hk h1 h2; omega

theorem winHi_spec (mind : Nat → Bool) (ops : Array Oper) (i : Nat) : winHi mind ops i ≤ ops.size ∧ ∀ j, j ≤ ops.size → (∀ k, i < k → k < ops.size → mind k = true → ((Region.before ops).getD k 0).testBit i = true → j ≤ k) → j ≤ winHi mind ops i := by
  unfold winHi
  simp only
  have go : ∀ (l : List Nat) (m0 : Nat) (p : Nat → Prop), p m0 → (∀ k, k ∈ l → i < k → mind k = true → ((Region.before ops).getD k 0).testBit i = true → p k) → p (l.foldr (fun k m => if (Nat.blt i k && mind k && ((Region.before ops).getD k 0).testBit i) = true then k else m) m0) := by
    intro l
    induction l with
    | nil => intro m0 p h _; exact h
    | cons k l ih =>
      intro m0 p h hl
      rw [List.foldr_cons]
      by_cases hc : (Nat.blt i k && mind k && ((Region.before ops).getD k 0).testBit i) = true
      · rw [if_pos hc]
        simp only [Bool.and_eq_true] at hc
        exact hl k List.mem_cons_self (by simpa using hc.1.1) hc.1.2 hc.2
      · rw [if_neg hc]; exact ih _ p h fun k hk => hl k (List.mem_cons_of_mem _ hk)
  refine ⟨go _ _ (fun m => m ≤ ops.size) (Nat.le_refl _) fun k hk _ _ _ => ?_, fun j hj hall => go _ _ (fun m => j ≤ m) hj fun k hk h1 h2 h3 => ?_⟩
  · rw [List.mem_range] at hk; omega
  · rw [List.mem_range] at hk; exact hall k h1 hk h2 h3

theorem many_regionW (hm : P.follows .mixedOrders = true) (hp : ProgOk P) (hcall : CallOk P call) (hch : CallH call) {ff : FuncId → Bool} (hfl : CallFlat ff call) (hok : manyF P ff ops = true) {e e' : List Value} {H' : AH} (h : evOps P call ops ops.toList e H = some (e', H')) (hst : noLoads ops = true ∨ stillW P call (mindF P ff ops) ops e H = true) :
    ∀ id φ w (a : Act) (Q : Exit → Act → World → Prop), Sim P φ H w → EnvR P φ H w e a.tmps → EndOk P φ H w e' H' a.defers (Q .normal) → (Code.region id ops true).wp P Q a w := by
  intro id φ w a Q hs he hk
  unfold manyF at hok
  simp only [Bool.and_eq_true] at hok
  obtain ⟨⟨⟨⟨htm, hbk⟩, hcn⟩, hld⟩, hsl⟩ := hok
  have hsel : ∀ o, o ∈ ops → ∀ cs b, o.op ≠ .select cs b := fun o ho cs b e => by
    have := List.all_eq_true.1 hsl o (by simpa using ho)
    rw [e] at this
    simp [selB] at this
  obtain ⟨W, E, K, h1, h2, h3, h4, h5⟩ := trace _ _ _ _ _ h
  have hlen : ops.toList.length = ops.size := by simp
  rw [hlen] at h3 h4
  have step : ∀ i o, ops[i]? = some o → Stp P call ops o (E i) (K i) (W i) (K (i + 1)) ∧ E (i + 1) = putE (E i) o.dst (W i) := fun i o ho => h5 i o (by rw [Array.getElem?_toList]; exact ho)
  have hE : ∀ i, i ≤ ops.size → E i = envOf ops W (fun _ => true) e i := fun i hi => trace_env h1 (fun i o ho => (step i o ho).2) hi
  -- the heaps on the way
  have hup : ∀ i d, i + d ≤ ops.size → StepH (K i) (K (i + d)) := fun i d => by
    induction d with
    | zero => intro _; exact .refl
    | succ d ih =>
      intro hd
      have hlt : i + d < ops.size := by omega
      have ho : ops[i + d]? = some ops[i + d] := Array.getElem?_eq_getElem hlt
      refine (ih (by omega)).trans ?_
      rcases (step _ _ ho).1 with ⟨_, hop⟩ | ⟨_, _, hks⟩
      · exact evOp_h hch hop
      · rw [← Nat.add_assoc, hks]; exact .refl
  have hfrom : ∀ i, i ≤ ops.size → WfH (K i) ∧ HStep H (K i) := fun i hi => by
    have := hup 0 i (by omega)
    rw [h2, Nat.zero_add] at this
    exact this hs.wf
  have hto : ∀ i, i ≤ ops.size → HStep (K i) H' := fun i hi => by
    have := hup i (ops.size - i) (by omega)
    rw [show i + (ops.size - i) = ops.size by omega, h4] at this
    exact (this (hfrom i hi).1).2
  have hbt : ∀ i d, i + d ≤ ops.size → HStep (K i) (K (i + d)) := fun i d hd => (hup i d hd (hfrom i (by omega)).1).2
  have hbt2 : ∀ i j, i ≤ j → j ≤ ops.size → HStep (K i) (K j) := fun i j hij hj => by
    have := hbt i (j - i) (by omega)
    rwa [show i + (j - i) = j by omega] at this
  have hload : ∀ i o t x, ops[i]? = some o → o.op = .load t x → ∀ ad, rho (E i) x = .pointer (some ad) → ∃ b, ∀ j, j ≤ ops.size → (∀ k, k < i → mindF P ff ops k = true → ((Region.before ops).getD i 0).testBit k = true → k < j) → (∀ k, i < k → k < ops.size → mindF P ff ops k = true → ((Region.before ops).getD k 0).testBit i = true → j ≤ k) → (K j).blk ad.block = some b ∧ (K j).live ad.block b = true := fun i o t x ho hx ad had => by
    rcases hst with hnl | hst
    · have := List.all_eq_true.1 hnl o (by simpa using Array.mem_of_getElem? ho)
      rw [hx] at this; simp [loadB, lookB] at this
    unfold stillW at hst
    cases hs2 : evTr P call ops ops.toList e H with
    | none => rw [hs2] at hst; cases hst
    | some s =>
    rw [hs2] at hst
    simp only at hst
    have hsat : ∀ i, i ≤ ops.size → s[i]? = some (E i, K i) := fun i hi => by
      have := evTr_at ops.toList 0 e H s hs2 (fun i o ho => by rw [Nat.zero_add]; exact h5 i o ho) h1 h2 i (by simpa using hi)
      rwa [Nat.zero_add] at this
    have hil : i < ops.size := (Array.getElem?_eq_some_iff.1 ho).1
    have hst2 := List.all_eq_true.1 hst i (List.mem_range.2 hil)
    obtain ⟨lo1, lo2⟩ := winLo_spec (mindF P ff ops) ops i
    obtain ⟨hi1, hi2⟩ := winHi_spec (mindF P ff ops) ops i
    rw [ho] at hst2
    simp only [hx, hsat i (by omega), hsat (winLo (mindF P ff ops) ops i) (by omega), hsat (winHi (mindF P ff ops) ops i) hi1, had, stillB] at hst2
    cases hb : (K (winLo (mindF P ff ops) ops i)).blk ad.block with
    | none => rw [hb] at hst2; cases hst2
    | some b =>
      cases hb2 : (K (winHi (mindF P ff ops) ops i)).blk ad.block with
      | none => rw [hb, hb2] at hst2; cases hst2
      | some b' =>
        rw [hb, hb2] at hst2
        simp only [Bool.and_eq_true] at hst2
        refine ⟨b, fun j hj hj1 hj2 => ?_⟩
        have g1 := lo2 j hj1
        have g2 := hi2 j hj hj2
        exact still_mid (hfrom _ (by omega)).1 (hbt2 _ _ g1 hj) (hbt2 _ _ g2 hi1) hb hb2 (Nat.eq_of_beq_eq_true hst2.1) hst2.2
  have hlook : ∀ i o t x k ok, ops[i]? = some o → o.op = .lookup t x k ok → ∀ ad, rho (E i) x = .map (some ad) → ∃ b, ∀ j, j ≤ ops.size → (∀ k, k < i → mindF P ff ops k = true → ((Region.before ops).getD i 0).testBit k = true → k < j) → (∀ k, i < k → k < ops.size → mindF P ff ops k = true → ((Region.before ops).getD k 0).testBit i = true → j ≤ k) → (K j).blk ad = some b ∧ (K j).live ad b = true := fun i o t x k ok ho hx ad had => by
    rcases hst with hnl | hst
    · have := List.all_eq_true.1 hnl o (by simpa using Array.mem_of_getElem? ho)
      rw [hx] at this; simp [loadB, lookB] at this
    unfold stillW at hst
    cases hs2 : evTr P call ops ops.toList e H with
    | none => rw [hs2] at hst; cases hst
    | some s =>
    rw [hs2] at hst
    simp only at hst
    have hsat : ∀ i, i ≤ ops.size → s[i]? = some (E i, K i) := fun i hi => by
      have := evTr_at ops.toList 0 e H s hs2 (fun i o ho => by rw [Nat.zero_add]; exact h5 i o ho) h1 h2 i (by simpa using hi)
      rwa [Nat.zero_add] at this
    have hil : i < ops.size := (Array.getElem?_eq_some_iff.1 ho).1
    have hst2 := List.all_eq_true.1 hst i (List.mem_range.2 hil)
    obtain ⟨lo1, lo2⟩ := winLo_spec (mindF P ff ops) ops i
    obtain ⟨hi1, hi2⟩ := winHi_spec (mindF P ff ops) ops i
    rw [ho] at hst2
    simp only [hx, hsat i (by omega), hsat (winLo (mindF P ff ops) ops i) (by omega), hsat (winHi (mindF P ff ops) ops i) hi1, had, stillB] at hst2
    cases hb : (K (winLo (mindF P ff ops) ops i)).blk ad with
    | none => rw [hb] at hst2; cases hst2
    | some b =>
      cases hb2 : (K (winHi (mindF P ff ops) ops i)).blk ad with
      | none => rw [hb, hb2] at hst2; cases hst2
      | some b' =>
        rw [hb, hb2] at hst2
        simp only [Bool.and_eq_true] at hst2
        refine ⟨b, fun j hj hj1 hj2 => ?_⟩
        have g1 := lo2 j hj1
        have g2 := hi2 j hj hj2
        exact still_mid (hfrom _ (by omega)).1 (hbt2 _ _ g1 hj) (hbt2 _ _ g2 hi1) hb hb2 (Nat.eq_of_beq_eq_true hst2.1) hst2.2
  have hB : RowKit.Below w.heap.size w { w with drawn := w.drawn + 1 } := (RowKit.Below.refl _ w).drew
  have hs1 := sim_below hs hB
  have st1 := step_below hs hB
  have hf0 : ∀ k, (Array.replicate ops.size false).getD k false = false := fun k => by
    rw [Array.getD_eq_getD_getElem?, Array.getElem?_replicate]; split <;> rfl
  have hh0 : hAt (mindF P ff ops) K (fun k => (Array.replicate ops.size false).getD k false) ops.size = H := by
    have := hAt_skip (mind := mindF P ff ops) (K := K) (S := fun k => (Array.replicate ops.size false).getD k false) (i := 0) ops.size fun k _ _ _ => hf0 k
    rw [Nat.zero_add] at this
    rw [this]; exact h2
  refine wp_region_any hm (many_any hp hcall htm hbk hsel (mind := mindF P ff ops) (E := E) (W := W) (K := K) (e0 := e) (φ0 := φ) (w0 := w) (df := a.defers) h2 (fun i j hij hj hmi hmj => ?_) (fun i o ho => ⟨(step i o ho).1, hE i (by have := (Array.getElem?_eq_some_iff.1 ho).1; omega), fun hmi => ?_⟩) hs (fun φ' w' a' st hs' he' hd => ?_) ops.size _ a _ φ (by simp) ?_ ?_ ?_ ?_ ?_ rfl)
  · have h6 := List.all_eq_true.1 hcn j (List.mem_range.2 hj)
    rw [hmj] at h6
    have h7 := List.all_eq_true.1 h6 i (List.mem_range.2 hij)
    rw [hmi] at h7
    exact h7
  · unfold mindF at hmi
    rw [ho] at hmi
    simp only at hmi
    have hcase : freeB P o.op = true ∨ loadB o.op = true ∨ lookB o.op = true ∨ flatCall ff o.op = true := by
      cases hf : freeB P o.op with
      | true => exact .inl rfl
      | false =>
        cases hl : loadB o.op with
        | true => exact .inr (.inl rfl)
        | false =>
          cases hlk : lookB o.op with
          | true => exact .inr (.inr (.inl rfl))
          | false =>
            cases hc : flatCall ff o.op with
            | true => exact .inr (.inr (.inr rfl))
            | false => rw [hf, hl, hlk, hc] at hmi; cases hmi
    have hstp := (step i o ho).1
    rcases hcase with hf | hl | hlk | hfc
    rotate_left 2
    · rcases hstp with ⟨hg, hop⟩ | ⟨hg, _, hks⟩
      · cases hx : o.op with
        | lookup t x k ok =>
          have key : ∀ j, j ≤ ops.size → (∀ k, k < i → mindF P ff ops k = true → ((Region.before ops).getD i 0).testBit k = true → k < j) → (∀ k, i < k → k < ops.size → mindF P ff ops k = true → ((Region.before ops).getD k 0).testBit i = true → j ≤ k) → evOp P call o (rho (E i)) (K j) = some (W i, K j) ∧ K (i + 1) = K i := fun j hj hj1 hj2 =>
            look_same hx hop fun ad had => by
              have hil : i < ops.size := (Array.getElem?_eq_some_iff.1 ho).1
              obtain ⟨b, hb⟩ := hlook i o t x k ok ho hx ad had
              have a1 := hb i (by omega) (fun k hk _ _ => hk) (fun k hk _ _ _ => by omega)
              have a2 := hb j hj hj1 hj2
              exact ⟨b, a1.1, a1.2, a2.1, a2.2⟩
          have hil : i < ops.size := (Array.getElem?_eq_some_iff.1 ho).1
          exact ⟨(key i (by omega) (fun k hk _ _ => hk) (fun k hk _ _ _ => by omega)).2, fun _ j hj hj1 hj2 => (key j hj hj1 hj2).1⟩
        | _ => rw [hx] at hlk; cases hlk
      · exact ⟨hks, fun hg2 => by rw [hg] at hg2; cases hg2⟩
    · obtain ⟨r, hr⟩ := evOp_flatCall (ρ := rho (E i)) hfl (fun f => rfl) hfc
      rcases hstp with ⟨hg, hop⟩ | ⟨hg, _, hks⟩
      · rw [hr] at hop
        cases r with
        | none => cases hop
        | some y =>
          simp only [Option.map_some, Option.some.injEq, Prod.mk.injEq] at hop
          exact ⟨hop.2.symm, fun _ j _ _ _ => by rw [hr, ← hop.1]; rfl⟩
      · exact ⟨hks, fun hg2 => by rw [hg] at hg2; cases hg2⟩
    · obtain ⟨r, hr⟩ := evOp_free (call := call) (ρ := rho (E i)) hf
      rcases hstp with ⟨hg, hop⟩ | ⟨hg, _, hks⟩
      · rw [hr] at hop
        cases r with
        | none => cases hop
        | some y =>
          simp only [Option.map_some, Option.some.injEq, Prod.mk.injEq] at hop
          exact ⟨hop.2.symm, fun _ j _ _ _ => by rw [hr, ← hop.1]; rfl⟩
      · exact ⟨hks, fun hg2 => by rw [hg] at hg2; cases hg2⟩
    · have hil : i < ops.size := (Array.getElem?_eq_some_iff.1 ho).1
      rcases hstp with ⟨hg, hop⟩ | ⟨hg, _, hks⟩
      · cases hx : o.op with
        | load t x =>
          obtain ⟨lo1, lo2⟩ := winLo_spec (mindF P ff ops) ops i
          obtain ⟨hi1, hi2⟩ := winHi_spec (mindF P ff ops) ops i
          have key : ∀ j, j ≤ ops.size → (∀ k, k < i → mindF P ff ops k = true → ((Region.before ops).getD i 0).testBit k = true → k < j) → (∀ k, i < k → k < ops.size → mindF P ff ops k = true → ((Region.before ops).getD k 0).testBit i = true → j ≤ k) → evOp P call o (rho (E i)) (K j) = some (W i, K j) ∧ K (i + 1) = K i := fun j hj hj1 hj2 =>
            load_same hx hop fun ad had => by
              obtain ⟨b, hb⟩ := hload i o t x ho hx ad had
              have a1 := hb i (by omega) (fun k hk _ _ => hk) (fun k hk _ _ _ => by omega)
              have a2 := hb j hj hj1 hj2
              exact ⟨b, a1.1, a1.2, a2.1, a2.2⟩
          exact ⟨(key i (by omega) (fun k hk _ _ => hk) (fun k hk _ _ _ => by omega)).2, fun _ j hj hj1 hj2 => (key j hj hj1 hj2).1⟩
        | _ => rw [hx] at hl; cases hl
      · exact ⟨hks, fun hg2 => by rw [hg] at hg2; cases hg2⟩
  · rw [h4] at st hs' he'
    rw [← hE _ (Nat.le_refl _), h3] at he'
    exact hk φ' w' a' st hs' he' hd
  · exact Nat.le_trans (List.length_filter_le _ _) (by simp)
  · intro j o _ hj
    rw [hf0] at hj; cases hj
  · rw [hh0]; exact st1
  · rw [hh0]; exact hs1
  · have : ∀ n, envOf ops W (fun k => (Array.replicate ops.size false).getD k false) e n = e := by
      intro n
      induction n with
      | zero => rfl
      | succ n ih =>
        have hf := hf0 n
        simp only [envOf, hf, Bool.false_eq_true, if_false]
        exact ih
    rw [this, hh0]
    exact he.mono st1
end
end Go.Proofs.YtaadahhjdkkkaaaGreatDoor.Ev
