/-
  Regions that draw their order, in which one new variable may be made ahead of its place in the text: nobody looks at it before.
-/
import Derived.Test.YtaadahhjdkkkaaaGreatDoorEvMany
namespace Go.Proofs.YtaadahhjdkkkaaaGreatDoor.Ev
set_option linter.unusedVariables false
set_option linter.unusedSimpArgs false
open Go

section
variable {P : Program} {φ φ' : Phi} {H H' : AH} {w w' : World}

/-- What values need to stay what they are. -/
structure Wk (φ : Phi) (H : AH) (w : World) (φ' : Phi) (H' : AH) (w' : World) : Prop where
  h : HStep H H'
  ext : ∀ c x, φ c = some x → φ' c = some x
  shape : ∀ (r : Nat) (C : Array Value) (e : TypeId) (fr : Nat × Nat), w.heap[r]? = some (Obj.cells C e fr) → ∃ (C' : Array Value) (fr' : Nat × Nat), w'.heap[r]? = some (Obj.cells C' e fr') ∧ C'.size = C.size

theorem AddrR.wk (s : Wk φ H w φ' H' w') {p q : Addr} (h : AddrR φ H p q) : AddrR φ' H' p q := by
  rcases h with h | ⟨h1, h2, δ, h3, h4⟩
  · exact .inl (h.mono s.h)
  · exact .inr ⟨h1, h2, δ, s.ext _ _ h3, h4⟩
theorem SliceR.wk (s : Wk φ H w φ' H' w') {p q : Addr} {n c c' : Nat} (h : SliceR P φ H w p q n c c') : SliceR P φ' H' w' p q n c c' := by
  rcases h with h | h | ⟨h1, h2, δ, C, e, fr, b, h3, h4, h5, h6, h7, h8, h9⟩ | ⟨h1, h2, h3, h4, δ, h5, h6⟩
  · exact .inl (h.mono s.h)
  · exact .inr (.inl ⟨h.1, h.2.1, h.2.2.1, h.2.2.2.imp fun _ h => s.ext _ _ h⟩)
  · obtain ⟨b', hb', _, hex, hsh, _, _⟩ := s.h.blk _ b h5
    rw [h6] at hsh
    cases ho : b'.obj with
    | cells C2 e2 fr2 =>
      rw [ho] at hsh
      obtain ⟨hs, rfl⟩ := hsh
      refine .inr (.inr (.inl ⟨h1, h2, δ, C2, e, fr2, b', s.ext _ _ h3, h4, hb', ho, h7, hs ▸ h8, ?_⟩))
      rcases h9 with h9 | ⟨g1, g2, g3, C', fr', g4, g5⟩
      · exact .inl h9
      · obtain ⟨C3, fr3, k1, k2⟩ := s.shape _ _ _ _ g4
        exact .inr ⟨hex ▸ g1, hs ▸ g2, g3, C3, fr3, k1, k2 ▸ g5⟩
    | _ => rw [ho] at hsh; simp [shapeSame] at hsh
  · exact .inr (.inr (.inr ⟨h1, h2, h3, h4, δ, s.ext _ _ h5, h6⟩))
theorem AtomR.wk (s : Wk φ H w φ' H' w') {a b : Value} (h : AtomR P φ H w a b) : AtomR P φ' H' w' a b := by
  cases h with
  | flat h => exact .flat h
  | ptr h => exact .ptr (h.wk s)
  | slice h => exact .slice (h.wk s)
  | map h => exact .map (h.imp (·.mono s.h) (s.ext _ _))
theorem CellR.wk (s : Wk φ H w φ' H' w') {a b : Value} (h : CellR P φ H w a b) : CellR P φ' H' w' a b := by
  cases h with
  | atom h => exact .atom (h.wk s)
  | iface h => exact .iface (h.wk s)
  | ifaceAgg h => exact .ifaceAgg h
  | func h => exact .func (h.imp fun _ _ h => h.wk s)
theorem PartR.wk (s : Wk φ H w φ' H' w') {a b : Value} (h : PartR P φ H w a b) : PartR P φ' H' w' a b := by
  cases h with
  | junk => exact .junk
  | cell h => exact .cell (h.wk s)
  | agg h => exact .agg (h.imp fun _ _ h => h.wk s)
theorem ValR.wk (s : Wk φ H w φ' H' w') {a b : Value} (h : ValR P φ H w a b) : ValR P φ' H' w' a b := by
  cases h with
  | part h => exact .part (h.wk s)
  | tuple h => exact .tuple (h.imp fun _ _ h => h.wk s)

/-- A block of the real heap that nobody held becomes the newest of the evaluator's. -/
theorem wk_bind (hs : Sim P φ H w) {r : Nat} {o : Obj} {ex : Bool} : Wk φ H w (upd φ H.next (r, 0)) (H.alloc o ex) w where
  h := HStep.alloc hs.wf
  ext := fun c x h => by rw [upd_ne (by have := hs.lt h; omega)]; exact h
  shape := fun r C e fr h => ⟨C, fr, h, rfl⟩
theorem step_bind {φ0 : Phi} {H0 : AH} {w0 : World} (hs0 : Sim P φ0 H0 w0) (s : Step P φ0 H0 w0 φ H w) (hw : WfH H) {r : Nat} {o : Obj} {ex : Bool} (hr : w0.heap.size ≤ r) : Step P φ0 H0 w0 (upd φ H.next (r, 0)) (H.alloc o ex) w where
  h := s.h.trans (HStep.alloc hw)
  ext := fun c x h => by
    have h1 := hs0.lt h
    have h2 := s.h.next
    rw [upd_ne (by omega)]; exact s.ext c x h
  old := fun c hc h => by
    have h2 := s.h.next
    rw [upd_ne (by omega)]; exact s.old c hc h
  os := s.os
  tape := s.tape
  output := s.output
  size := s.size
  shape := s.shape
  frame := fun k hk hall => s.frame k hk fun c δ b h1 h2 => by
    rcases hall c δ b h1 h2 with h | ⟨h3, b', h4, h5⟩
    · exact .inl h
    · have h6 := hs0.lt h1
      have h7 := s.h.next
      rw [blk_alloc, if_neg (by omega)] at h4
      exact .inr ⟨h3, b', h4, h5⟩
  new := fun c k δ h h' hk => by
    unfold upd at h'
    split at h'
    · obtain h' := Option.some.inj h'; simp only [Prod.mk.injEq] at h'; omega
    · exact s.new c k δ h h' hk
  heads := fun c b hb hn => s.heads c b hb hn
theorem sim_bind (hs : Sim P φ H w) {C : Array Value} {e : TypeId} {r : Nat} (hr : w.heap[r]? = some (.cells C e (0, 0))) (hno : ∀ c δ, φ c ≠ some (r, δ)) (hfx : r ∉ fixedBlocks)
    (hC : ∀ (i : Nat) (x y : Value), C[i]? = some x → C[i]? = some y → CellR P φ H w x y) : Sim P (upd φ H.next (r, 0)) (H.alloc (.cells C e (0, 0)) true) w := by
  have hst := wk_bind (o := .cells C e (0, 0)) (ex := true) hs (r := r)
  have hcase : ∀ c k δ, upd φ H.next (r, 0) c = some (k, δ) → (c = H.next ∧ k = r ∧ δ = 0) ∨ (c ≠ H.next ∧ φ c = some (k, δ) ∧ k ≠ r) := fun c k δ h => by
    unfold upd at h; split at h
    · rename_i e; obtain h := Option.some.inj h; simp only [Prod.mk.injEq] at h; exact .inl ⟨e, h.1.symm, h.2.symm⟩
    · rename_i e; exact .inr ⟨e, h, fun e2 => hno c δ (e2 ▸ h)⟩
  have hblk : ∀ c, c ≠ H.next → (H.alloc (.cells C e (0, 0)) true).blk c = H.blk c := fun c hc => by rw [blk_alloc, if_neg hc]
  constructor
  case wf => exact hs.wf.alloc ⟨rfl, rfl⟩
  case blk =>
    intro c k δ h
    rcases hcase c k δ h with ⟨rfl, _, _⟩ | ⟨hc, h, _⟩
    · exact ⟨_, blk_alloc_new⟩
    · rw [hblk c hc]; exact hs.blk c k δ h
  case real =>
    intro c k δ h
    rcases hcase c k δ h with ⟨_, rfl, _⟩ | ⟨_, h, _⟩
    · exact (Array.getElem?_eq_some_iff.1 hr).1
    · exact hs.real c k δ h
  case fix =>
    refine ⟨hs.fix.1, fun g hg => ⟨(hs.fix.2 g hg).1, fun c δ b h hb => ?_⟩⟩
    rcases hcase c g δ h with ⟨_, h2, _⟩ | ⟨hc', h2, _⟩
    · exact absurd (h2 ▸ hg) hfx
    · rw [hblk c hc'] at hb
      have hro := (hs.fix.2 g hg).2 c δ b h2 hb
      exact ⟨hro.1, by rw [grp_alloc, upd_ne (by have := (hs.wf.head c b hb).2; omega)]; exact hro.2⟩
  case obj =>
    intro c k δ b h hb hl
    rcases hcase c k δ h with ⟨rfl, rfl, rfl⟩ | ⟨hc, h, hk⟩
    · rw [blk_alloc_new] at hb; obtain rfl := Option.some.inj hb
      unfold ObjR
      refine ⟨C, (0, 0), hr, by omega, fun i x y hx hy => ?_, fun i hi hfz => ?_, fun _ i _ hi => frz_none i, fun hx => ⟨rfl, rfl, rfl⟩⟩
      · rw [Nat.zero_add] at hy; exact (hC i x y hx hy).wk hst
      · exact absurd hfz (frz_none _)
    · rw [hblk c hc] at hb
      have ho := hs.obj c k δ b h hb hl
      unfold ObjR at ho ⊢
      split
      · rename_i C1 e1 fr1 hob
        simp only [hob] at ho
        obtain ⟨C', fr', h1, h2, h3, h4, h5, h6⟩ := ho
        exact ⟨C', fr', h1, h2, fun i x y hx hy => (h3 i x y hx hy).wk hst, h4, h5, h6⟩
      · rename_i es1 ck1 hob
        simp only [hob] at ho
        obtain ⟨h1, h2, es', h3, h4, h5⟩ := ho
        exact ⟨h1, h2, es', h3, h4, fun i x y hx hy => by obtain ⟨k1, k2, k3⟩ := h5 i x y hx hy; exact ⟨k1, k2, k3.wk hst⟩⟩
      · rename_i hno2 hno3
        split at ho
        · rename_i C1 e1 fr1 hob; exact absurd hob (hno2 C1 e1 fr1)
        · rename_i es1 ck1 hob; exact absurd hob (hno3 es1 ck1)
        · exact ho
  case sep =>
    intro c d k δ ε b b' h1 h2 hb hb'
    rcases hcase c k δ h1 with ⟨rfl, rfl, rfl⟩ | ⟨hc, h1, hk⟩ <;> rcases hcase d _ ε h2 with ⟨rfl, h3, rfl⟩ | ⟨hd, h2, hk2⟩
    · rw [hb] at hb'; obtain rfl := Option.some.inj hb'; rfl
    · exact absurd rfl hk2
    · exact absurd h3 hk
    · rw [hblk c hc] at hb; rw [hblk d hd] at hb'; exact hs.sep c d k δ ε b b' h1 h2 hb hb'
  case ends =>
    intro c d k δ ε b b' C1 C' e1 e' f f' h1 h2 hb hb' hcd hC1 hC'
    rcases hcase c k δ h1 with ⟨rfl, rfl, rfl⟩ | ⟨hc, h1, hk⟩ <;> rcases hcase d _ ε h2 with ⟨rfl, h3, rfl⟩ | ⟨hd, h2, hk2⟩
    · rw [hb] at hb'; obtain rfl := Option.some.inj hb'; rw [hC1] at hC'; cases hC'; exact Nat.le_refl _
    · exact absurd rfl hk2
    · exact absurd h3 hk
    · rw [hblk c hc] at hb; rw [hblk d hd] at hb'; exact hs.ends c d k δ ε b b' C1 C' e1 e' f f' h1 h2 hb hb' hcd hC1 hC'
end

section
variable {P : Program} {call : CallA} {ops : Array Oper} {W : Nat → Value} {e0 : List Value} {H : AH}

theorem envOf_congr {W' : Nat → Value} {S : Nat → Bool} : ∀ n, (∀ k, k < n → S k = true → W k = W' k) → envOf ops W S e0 n = envOf ops W' S e0 n
  | 0, _ => rfl
  | n + 1, h => by
    simp only [envOf]
    rw [envOf_congr n fun k hk => h k (by omega)]
    cases hs : S n with
    | false => rfl
    | true => rw [h n (Nat.lt_succ_self n) hs]
theorem envOf_len2 {W' : Nat → Value} {S S' : Nat → Bool} (n : Nat) : (envOf ops W S e0 n).length = (envOf ops W' S' e0 n).length := by rw [envOf_length, envOf_length]
/-- Away from one temporary it is all the same what is put there, or whether. -/
theorem envOf_but {W' : Nat → Value} {S S' : Nat → Bool} {j : Nat} {t : Tmp} (hw : ∀ k, k ≠ j → W k = W' k) (hS : ∀ k, k ≠ j → S k = S' k) (ht : dstOf ops j ≠ some t) : ∀ n, (envOf ops W S e0 n)[t]? = (envOf ops W' S' e0 n)[t]?
  | 0 => rfl
  | n + 1 => by
    have ih := envOf_but hw hS ht n
    simp only [envOf]
    by_cases hn : n = j
    · subst hn
      have h1 : ∀ (b : Bool) (e : List Value) (v : Value), (if b = true then putE e (dstOf ops n) v else e)[t]? = e[t]? := fun b e v => by
        cases b with
        | false => rfl
        | true => exact putE_get_ne ht
      rw [h1, h1]; exact ih
    · rw [hw n hn, hS n hn]
      cases S' n with
      | false => exact ih
      | true =>
        show (putE _ (dstOf ops n) (W' n))[t]? = (putE _ (dstOf ops n) (W' n))[t]?
        by_cases hd : dstOf ops n = some t
        · rw [hd]; exact putE_get_eq (envOf_len2 n)
        · rw [putE_get_ne hd, putE_get_ne hd]; exact ih
/-- Where one operation alone puts something, that lies there. -/
theorem envOf_one {S : Nat → Bool} {j : Nat} {t : Tmp} (hd : dstOf ops j = some t) (hS : S j = true) (hone : ∀ k, k ≠ j → dstOf ops k ≠ some t) : ∀ n, j < n → ∀ x, (envOf ops W S e0 n)[t]? = some x → x = W j
  | 0, h, _, _ => absurd h (Nat.not_lt_zero _)
  | n + 1, h, x, hx => by
    simp only [envOf] at hx
    by_cases hn : n = j
    · subst hn
      rw [hS, hd] at hx
      have hx : (List.set (envOf ops W S e0 n) t (W n))[t]? = some x := hx
      rw [List.getElem?_set] at hx
      split at hx
      · split at hx
        · exact (Option.some.inj hx).symm
        · cases hx
      · rename_i h9; exact absurd rfl h9
    · have h1 : ∀ (b : Bool) (e : List Value) (v : Value), (if b = true then putE e (dstOf ops n) v else e)[t]? = e[t]? := fun b e v => by
        cases b with
        | false => rfl
        | true => exact putE_get_ne (hone n hn)
      rw [h1] at hx
      exact envOf_one hd hS hone n (by omega) x hx

theorem late_any (hp : ProgOk P) (hcall : CallOk P call) (htm : tempsG ops = true) (hbk : backB ops = true) (hsel : ∀ o, o ∈ ops → ∀ cs b, o.op ≠ .select cs b) {mind : Nat → Bool} {E : Nat → List Value} {K : Nat → AH} (hK0 : K 0 = H)
    {j : Nat} {oj : Oper} {dj : Tmp} {te : TypeId} {C : Array Value} {mk : Nat → Value} (hj : ops[j]? = some oj) (hgo : guardA ops oj (E j) = some true) (hdj : oj.dst = some dj) (hnew : W j = mk (K j).next ∧ K (j + 1) = (K j).alloc (.cells C te) true)
    (hrunj : ∀ (a : Act) (w : World), (execOp a.eval oj).run P w = .ok (.value (mk w.heap.size)) { w with heap := w.heap.push (.cells C te) }) (hCj : ∀ (φ : Phi) (H : AH) (w : World) (i : Nat) (x y : Value), C[i]? = some x → C[i]? = some y → CellR P φ H w x y)
    (hmkj : ∀ (φ : Phi) (H : AH) (w : World) (r : Nat), ValR P (upd φ H.next (r, 0)) (H.alloc (.cells C te) true) w (mk H.next) (mk r)) (hmj2 : mind j = true)
    (hnm : ∀ k p, ops[k]? = some p → k ≠ j → (dj ∈ gnamesOf ops p ∨ ∃ e, e ∈ p.after.toList ∧ Region.binds .any e = true ∧ e.on = j) → (mind k = true ∧ j < k) ∨ ∃ x, mind x = true ∧ j < x ∧ x < k ∧ ((Region.before ops).getD k 0).testBit x = true)
    (hOneD : ∀ k, k ≠ j → dstOf ops k ≠ some dj)
    (hch : ∀ i k, i < k → k < ops.size → k ≠ j → mind i = true → mind k = true → ((Region.before ops).getD k 0).testBit i = true)
    (hE : ∀ i o, ops[i]? = some o → Stp P call ops o (E i) (K i) (W i) (K (i + 1)) ∧ E i = envOf ops W (fun _ => true) e0 i ∧ (mind i = false → K (i + 1) = K i ∧ (guardA ops o (E i) = some true → ∀ j, j ≤ ops.size → evOp P call o (rho (E i)) (K j) = some (W i, K j))))
    {φ0 : Phi} {w0 : World} {df : List Deferred} {Q : Exit → Act → World → Prop} (hs0 : Sim P φ0 H w0)
    (hk : ∀ φ w a, Step P φ0 H w0 φ (K ops.size) w → Sim P φ (K ops.size) w → EnvR P φ (K ops.size) w (envOf ops W (fun _ => true) e0 ops.size) a.tmps → a.defers = df → Q .normal a w) :
    ∀ (fuel : Nat),
      (∀ (listed : Array Bool) (a : Act) (w : World) (φ : Phi), listed.size = ops.size → ((List.range ops.size).filter fun k => !listed.getD k false).length ≤ fuel →
        (∀ j o, ops[j]? = some o → listed.getD j false = true → ∀ e, e ∈ o.after.toList → Region.binds .any e = true → listed.getD e.on false = true) →
        (listed.getD j false = true → ∀ m, m < j → mind m = true → listed.getD m false = true) →
        Step P φ0 H w0 φ (hAt mind K (fun k => listed.getD k false) ops.size) w → Sim P φ (hAt mind K (fun k => listed.getD k false) ops.size) w → EnvR P φ (hAt mind K (fun k => listed.getD k false) ops.size) w (envOf ops W (fun k => listed.getD k false) e0 ops.size) a.tmps → a.defers = df → wpAny P .any ops Q fuel listed a w) ∧
      (∀ (listed : Array Bool) (a : Act) (w : World) (φ : Phi) (r : Nat), listed.size = ops.size → ((List.range ops.size).filter fun k => !listed.getD k false).length ≤ fuel →
        (∀ j o, ops[j]? = some o → listed.getD j false = true → ∀ e, e ∈ o.after.toList → Region.binds .any e = true → listed.getD e.on false = true) →
        listed.getD j false = true → (∃ m, m < j ∧ mind m = true ∧ listed.getD m false = false) →
        Step P φ0 H w0 φ (hAt mind K (fun k => listed.getD k false && !Nat.beq k j) ops.size) w → Sim P φ (hAt mind K (fun k => listed.getD k false && !Nat.beq k j) ops.size) w →
        EnvR P φ (hAt mind K (fun k => listed.getD k false && !Nat.beq k j) ops.size) w (envOf ops (fun k => bif Nat.beq k j then junk else W k) (fun k => listed.getD k false) e0 ops.size) a.tmps →
        w.heap[(r : Nat)]? = some (.cells C te (0, 0)) → w0.heap.size ≤ r → (∀ c δ, φ c ≠ some (r, δ)) → (dj < a.tmps.size → a.tmps[dj]? = some (mk r)) → a.defers = df → wpAny P .any ops Q fuel listed a w) := by
  have hjl : j < ops.size := (Array.getElem?_eq_some_iff.1 hj).1
  have hKs : ∀ j, j < ops.size → mind j = false → K (j + 1) = K j := fun j hj hm => ((hE j ops[j] (Array.getElem?_eq_getElem hj)).2.2 hm).1
  have hdop : dstOf ops j = some dj := by unfold dstOf; rw [hj]; exact hdj
  have fin : ∀ (listed : Array Bool) (a : Act) (w : World) (φ : Phi), listed.size = ops.size → Region.ready .any ops listed = [] → Step P φ0 H w0 φ (hAt mind K (fun k => listed.getD k false) ops.size) w → Sim P φ (hAt mind K (fun k => listed.getD k false) ops.size) w → EnvR P φ (hAt mind K (fun k => listed.getD k false) ops.size) w (envOf ops W (fun k => listed.getD k false) e0 ops.size) a.tmps → a.defers = df → Q .normal a w := by
    intro listed a w φ hl hr st hs he hd
    have hall := ready_nil hbk hl hr
    have hh : hAt mind K (fun k => listed.getD k false) ops.size = K ops.size := hAt_pre ops.size hKs fun j hj _ => hall j hj
    rw [hh] at st hs he
    refine hk φ w a st hs ?_ hd
    have : envOf ops W (fun k => listed.getD k false) e0 ops.size = envOf ops W (fun _ => true) e0 ops.size := by
      have go : ∀ n, n ≤ ops.size → envOf ops W (fun k => listed.getD k false) e0 n = envOf ops W (fun _ => true) e0 n := by
        intro n hn
        induction n with
        | zero => rfl
        | succ n ih => simp only [envOf, hall n (by omega), if_true]; rw [ih (by omega)]
      exact go _ (Nat.le_refl _)
    rwa [this] at he
  have none0 : ∀ (listed : Array Bool), listed.size = ops.size → ((List.range ops.size).filter fun k => !listed.getD k false).length ≤ 0 → Region.ready .any ops listed = [] := fun listed hl hc => by
    cases hr : Region.ready .any ops listed with
    | nil => rfl
    | cons i r =>
      have hm := ready_spec (show i ∈ Region.ready .any ops listed by rw [hr]; simp)
      have : i ∈ (List.range ops.size).filter fun k => !listed.getD k false := by
        rw [List.mem_filter, List.mem_range]
        refine ⟨hm.1, ?_⟩
        have h0 := hm.2.1
        rw [Array.getD_eq_getD_getElem?, Array.getElem?_eq_getElem (by omega)] at h0 ⊢
        simpa using h0
      have hnil := List.length_eq_zero_iff.1 (Nat.le_zero.1 hc)
      rw [hnil] at this
      cases this
  intro fuel
  induction fuel with
  | zero =>
    refine ⟨fun listed a w φ hl hc hS hN st hs he hd => ?_, fun listed a w φ r hl hc hS hlj hpd st hs he hr hr0 hno hrt hd => ?_⟩
    · have hr := none0 listed hl hc
      exact ⟨hr, fin listed a w φ hl hr st hs he hd⟩
    · have hr9 := none0 listed hl hc
      obtain ⟨m, hm1, hm2, hm3⟩ := hpd
      rw [ready_nil hbk hl hr9 m (by omega)] at hm3
      cases hm3
  | succ fuel ih =>
    obtain ⟨ihN, ihP⟩ := ih
    -- what each step has in common
    have comm : ∀ (listed : Array Bool) (i : Nat) (o : Oper), listed.size = ops.size → i < ops.size → listed.getD i true = false → ops[i]? = some o → (∀ e, e ∈ o.after.toList → Region.binds .any e = true → listed.getD e.on false = true) →
        (∀ j o, ops[j]? = some o → listed.getD j false = true → ∀ e, e ∈ o.after.toList → Region.binds .any e = true → listed.getD e.on false = true) →
        listed.getD i false = false ∧ (fun k => (listed.setIfInBounds i true).getD k false) = (fun k => listed.getD k false || Nat.beq k i) ∧
        (∀ j o, ops[j]? = some o → (listed.setIfInBounds i true).getD j false = true → ∀ e, e ∈ o.after.toList → Region.binds .any e = true → (listed.setIfInBounds i true).getD e.on false = true) ∧
        (∀ k, k < i → ((Region.before ops).getD i 0).testBit k = true → listed.getD k false = true) ∧
        (∀ W' : Nat → Value, envOf ops W' (fun k => (listed.setIfInBounds i true).getD k false) e0 ops.size = putE (envOf ops W' (fun k => listed.getD k false) e0 ops.size) o.dst (W' i)) ∧
        ((List.range ops.size).filter fun k => !(listed.setIfInBounds i true).getD k false).length < ((List.range ops.size).filter fun k => !listed.getD k false).length := by
      intro listed i o hl hil hno ho hpre hS
      have hno' : listed.getD i false = false := by
        rw [Array.getD_eq_getD_getElem?, Array.getElem?_eq_getElem (by omega)] at hno ⊢
        exact hno
      have hcl := closed_set hl hil hS ho hpre
      have hfun : (fun k => (listed.setIfInBounds i true).getD k false) = fun k => listed.getD k false || Nat.beq k i := by
        funext k
        rw [Array.getD_eq_getD_getElem?, Array.getElem?_setIfInBounds]
        by_cases hik : i = k
        · subst hik
          rw [if_pos rfl, if_pos (by omega), Nat.beq_refl]
          simp
        · have hb : Nat.beq k i = false := Bool.eq_false_iff.2 fun h => hik (Nat.eq_of_beq_eq_true h).symm
          rw [if_neg hik, hb, Bool.or_false, ← Array.getD_eq_getD_getElem?]
      have hii : (listed.setIfInBounds i true).getD i false = true := by
        have h4 := congrFun hfun i
        rw [h4, Nat.beq_refl]
        simp
      refine ⟨hno', hfun, hcl, fun k hki hb => ?_, fun W' => ?_, ?_⟩
      · have h2 := before_closed (fun k => (listed.setIfInBounds i true).getD k false) hcl i k hb hii
        have h4 := congrFun hfun k
        rw [h4] at h2
        have hb2 : Nat.beq k i = false := Bool.eq_false_iff.2 fun h => by have := Nat.eq_of_beq_eq_true h; omega
        simpa [hb2] using h2
      · have hd2 : dstOf ops i = o.dst := by unfold dstOf; rw [ho]; rfl
        rw [hfun, ← hd2]
        refine envOf_add i hno' ops.size hil fun k hik hkn hsk => ?_
        cases hdi : dstOf ops i with
        | none => exact .inl rfl
        | some t =>
          refine .inr fun heq => ?_
          have hko : ops[k]? = some ops[k] := Array.getElem?_eq_getElem hkn
          have hdk : ops[k].dst = some t := by have : dstOf ops k = ops[k].dst := by unfold dstOf; rw [hko]; rfl
                                               rw [← this, ← heq]
          have hb := tempsG_spec htm hko hdi (show t ∈ gnamesOf ops ops[k] from List.mem_append_left _ (by unfold namesOf; rw [hdk]; simp)) (by omega)
          rw [Nat.max_eq_right (by omega), Nat.min_eq_left (by omega)] at hb
          have h3 := before_closed (fun k => listed.getD k false) hS k i hb hsk
          rw [hno'] at h3
          cases h3
      · refine filter_lt _ _ (fun x hx => ?_) _ i (List.mem_range.2 hil) (by simp [hno']) (by simp [hii])
        have h4 := congrFun hfun x
        rw [h4] at hx
        simp at hx
        simp [hx.1]
    refine ⟨fun listed a w φ hl hc hS hN st hs he hd => ⟨fun hr => fin listed a w φ hl hr st hs he hd, fun i hi => ?_⟩, fun listed a w φ r hl hc hS hlj hpd st hs he hr hr0 hno hrt hd => ⟨fun hr9 => ?_, fun i hi => ?_⟩⟩
    · -- nothing is ahead of its place
      obtain ⟨hil, hno, o, ho, hpre⟩ := ready_spec hi
      obtain ⟨hno', hfun, hcl, hpre2, hadd, hlt⟩ := comm listed i o hl hil hno ho hpre hS
      have hmem : o ∈ ops := Array.mem_of_getElem? ho
      obtain ⟨hstp, hEi, hfree⟩ := hE i o ho
      have hag : ∀ t, t ∈ gnamesOf ops o → (envOf ops W (fun k => listed.getD k false) e0 ops.size)[t]? = (E i)[t]? := fun t ht => by
        rw [env_agreesG htm hS ho hno' hpre2 ht, envOf_lt i ops.size (by omega), hEi]
      have hgd : guardA ops o (envOf ops W (fun k => listed.getD k false) e0 ops.size) = guardA ops o (E i) := by
        unfold guardA
        cases hg : o.guard with
        | none => rfl
        | some p =>
          obtain ⟨j, want⟩ := p
          simp only
          cases hd2 : (ops[j]?).bind (·.dst) with
          | none => rfl
          | some t =>
            have := hag t (List.mem_append_right _ (by rw [hg]; show t ∈ (dstOf ops j).toList; unfold dstOf; rw [hd2]; simp))
            simp only [Option.bind_some, this]
      have hev : ∀ H2, evOp P call o (rho (envOf ops W (fun k => listed.getD k false) e0 ops.size)) H2 = evOp P call o (rho (E i)) H2 := fun H2 =>
        evOp_names (hsel o hmem) fun t ht => hag t (List.mem_append_left _ ht)
      by_cases hA : i = j ∧ ∃ m, m < j ∧ mind m = true ∧ listed.getD m false = false
      · -- the variable is made ahead of its place
        obtain ⟨rfl, hA⟩ := hA
        obtain rfl : o = oj := Option.some.inj (ho.symm.trans hj)
        unfold wpOp
        rw [ho]
        simp only
        have hw := guard_wanted he (hgd.trans hgo)
        rw [if_pos hw]
        refine .inl ?_
        have hrun := hrunj a w
        unfold Oper.wp
        rw [hrun]
        have hB : RowKit.Below w.heap.size w { w with heap := w.heap.push (.cells C te) } := ⟨rfl, rfl, rfl, by simp, fun k hk => by
          show (w.heap.push _)[k]? = _
          rw [Array.getElem?_push, if_neg (by omega)]⟩
        have hs1 := sim_below hs hB
        have st1 := step_below hs hB
        have hsame : hAt mind K (fun k => (listed.setIfInBounds i true).getD k false && !Nat.beq k i) ops.size = hAt mind K (fun k => listed.getD k false) ops.size := hAt_congr _ fun k _ _ => by
          have h4 := congrFun hfun k
          rw [h4]
          by_cases hki : k = i
          · subst hki; rw [Nat.beq_refl, hno']; rfl
          · have hb : Nat.beq k i = false := Bool.eq_false_iff.2 fun h => hki (Nat.eq_of_beq_eq_true h)
            rw [hb]; simp
        obtain ⟨m, hm1, hm2, hm3⟩ := hA
        refine ihP _ _ _ φ w.heap.size (by simpa using hl) (by omega) hcl (by have h4 := congrFun hfun i; rw [h4, Nat.beq_refl]; simp) ⟨m, hm1, hm2, ?_⟩ (by rw [hsame]; exact st.trans hs0 st1) (by rw [hsame]; exact hs1) ?_ (by show (w.heap.push _)[w.heap.size]? = _; simp) (st.size) (fun c δ h => by have := hs.real c _ δ h; omega) (fun hlt2 => ?_) (by rw [put_defers', hd])
        · have h4 := congrFun hfun m
          rw [h4, hm3]
          have hb : Nat.beq m i = false := Bool.eq_false_iff.2 fun h => by have := Nat.eq_of_beq_eq_true h; omega
          rw [hb]; rfl
        · rw [hsame, hadd]
          have hc2 : envOf ops (fun k => bif Nat.beq k i then junk else W k) (fun k => listed.getD k false) e0 ops.size = envOf ops W (fun k => listed.getD k false) e0 ops.size := envOf_congr _ fun k _ hk2 => by
            have hb : Nat.beq k i = false := Bool.eq_false_iff.2 fun h => by have := Nat.eq_of_beq_eq_true h; subst this; rw [hno'] at hk2; cases hk2
            rw [hb]; rfl
          rw [hc2, Nat.beq_refl]
          exact (he.mono st1).put o.dst (.part .junk)
        · rw [hdj] at hlt2 ⊢
          show (a.tmps.setIfInBounds dj _)[dj]? = _
          have hlt3 : dj < a.tmps.size := by simpa [Act.put] using hlt2
          rw [Array.getElem?_setIfInBounds]
          simp [hlt3]
      · -- as in the text
        have hprev : mind i = true → ∀ m, m < i → mind m = true → listed.getD m false = true := fun hm m hmi hmm => by
          by_cases hij : i = j
          · cases hlm : listed.getD m false with
            | true => rfl
            | false => exact absurd ⟨hij, m, hij ▸ hmi, hmm, hlm⟩ hA
          · exact hpre2 m hmi (hch m i hmi hil hij hmm hm)
        have hpost : mind i = true → ∀ k, i < k → k < ops.size → mind k = true → listed.getD k false = false := fun hm k hik hkl hmk => by
          cases hlk : listed.getD k false with
          | false => rfl
          | true =>
            by_cases hkj : k = j
            · subst hkj
              have := hN hlk i hik hm
              rw [hno'] at this; cases this
            · have := before_closed (fun k => listed.getD k false) hS k i (hch i k hik hkl hkj hm hmk) hlk
              rw [hno'] at this; cases this
        have hnow : mind i = true → hAt mind K (fun k => listed.getD k false) ops.size = K i := fun hm => by
          have e1 : hAt mind K (fun k => listed.getD k false) (i + (ops.size - i)) = hAt mind K (fun k => listed.getD k false) i := hAt_skip _ fun k h1 h2 h3 => by
            by_cases hki : k = i
            · subst hki; exact hno'
            · exact hpost hm k (by omega) (by omega) h3
          rw [show i + (ops.size - i) = ops.size by omega] at e1
          rw [e1]
          exact hAt_pre i (fun j hj hmj => hKs j (by omega) hmj) fun m hmi hmm => hprev hm m hmi hmm
        have hthen : hAt mind K (fun k => (listed.setIfInBounds i true).getD k false) ops.size = if mind i = true then K (i + 1) else hAt mind K (fun k => listed.getD k false) ops.size := by
          by_cases hm : mind i = true
          · rw [if_pos hm, hfun]
            have e1 : hAt mind K (fun k => listed.getD k false || Nat.beq k i) ((i + 1) + (ops.size - (i + 1))) = hAt mind K (fun k => listed.getD k false || Nat.beq k i) (i + 1) := hAt_skip _ fun k h1 h2 h3 => by
              have hb2 : Nat.beq k i = false := Bool.eq_false_iff.2 fun h => by have := Nat.eq_of_beq_eq_true h; omega
              rw [hb2, Bool.or_false]
              exact hpost hm k (by omega) (by omega) h3
            rw [show (i + 1) + (ops.size - (i + 1)) = ops.size by omega] at e1
            rw [e1]
            unfold hAt
            rw [hm, Nat.beq_refl, Bool.or_true]
            rfl
          · rw [if_neg hm, hfun]
            refine (hAt_congr _ fun k _ hmk => ?_).symm
            have hb2 : Nat.beq k i = false := Bool.eq_false_iff.2 fun h => by have := Nat.eq_of_beq_eq_true h; subst this; exact hm hmk
            rw [hb2, Bool.or_false]
        have hN' : (listed.setIfInBounds i true).getD j false = true → ∀ m, m < j → mind m = true → (listed.setIfInBounds i true).getD m false = true := fun hlj m hmj hmm => by
          have h4 := congrFun hfun j
          have h5 := congrFun hfun m
          rw [h4] at hlj
          rw [h5]
          by_cases hij : i = j
          · rw [hprev (hij ▸ hmj2) m (hij ▸ hmj) hmm]; rfl
          · have hb : Nat.beq j i = false := Bool.eq_false_iff.2 fun h => hij (Nat.eq_of_beq_eq_true h).symm
            rw [hb, Bool.or_false] at hlj
            rw [hN hlj m hmj hmm]; rfl
        unfold wpOp
        rw [ho]
        simp only
        rcases hstp with ⟨hgt, hop⟩ | ⟨hgf, hwu, hks⟩
        · have hw := guard_wanted he (hgd.trans hgt)
          rw [if_pos hw]
          have hop2 : evOp P call o (rho (envOf ops W (fun k => listed.getD k false) e0 ops.size)) (hAt mind K (fun k => listed.getD k false) ops.size) = some (W i, hAt mind K (fun k => (listed.setIfInBounds i true).getD k false) ops.size) := by
            rw [hev, hthen]
            by_cases hm : mind i = true
            · rw [if_pos hm, hnow hm]; exact hop
            · rw [if_neg hm]
              obtain ⟨j, hj, hj2, _⟩ := hAt_some mind K (fun k => listed.getD k false) ops.size
              rw [hj2]
              exact (hfree (Bool.eq_false_iff.2 hm)).2 hgt j hj
          refine .inl (evOp_sound hp hcall hs (fun x => he.rho x) hop2 _ Q fun v' w' ⟨φ', st', hs', hv'⟩ => ?_)
          refine ihN _ _ _ φ' (by simpa using hl) (by omega) hcl hN' (st.trans hs0 st') hs' ?_ (by rw [put_defers', hd])
          rw [hadd]
          exact (he.mono st').put o.dst hv'
        · have hw := guard_wanted he (hgd.trans hgf)
          rw [if_neg (by rw [hw]; simp)]
          have hsame : hAt mind K (fun k => (listed.setIfInBounds i true).getD k false) ops.size = hAt mind K (fun k => listed.getD k false) ops.size := by
            rw [hthen]
            by_cases hm : mind i = true
            · rw [if_pos hm, hnow hm, hks]
            · rw [if_neg hm]
          refine ihN _ _ _ φ (by simpa using hl) (by omega) hcl hN' (by rw [hsame]; exact st) (by rw [hsame]; exact hs) ?_ (by rw [put_defers', hd])
          rw [hadd, hsame, hwu]
          exact he.put o.dst val_undef
    · obtain ⟨m, hm1, hm2, hm3⟩ := hpd
      rw [ready_nil hbk hl hr9 m (by omega)] at hm3
      cases hm3
    · -- the variable was made ahead of its place
      obtain ⟨hil, hnoi, o, ho, hpre⟩ := ready_spec hi
      obtain ⟨hno', hfun, hcl, hpre2, hadd, hlt⟩ := comm listed i o hl hil hnoi ho hpre hS
      have hmem : o ∈ ops := Array.mem_of_getElem? ho
      obtain ⟨hstp, hEi, hfree⟩ := hE i o ho
      obtain ⟨m0, hm1, hm2, hm3⟩ := hpd
      have hij : i ≠ j := fun e => by rw [← e, hno'] at hlj; cases hlj
      have hlate : ∀ k, mind k = true → j < k → k < ops.size → listed.getD k false = false := fun k hmk hjk hkl => by
        cases hlk : listed.getD k false with
        | false => rfl
        | true =>
          have := before_closed (fun k => listed.getD k false) hS k m0 (hch m0 k (by omega) hkl (by omega) hm2 hmk) hlk
          rw [hm3] at this; cases this
      have hP1 : mind i = true → i < j := fun hm => by
        rcases Nat.lt_trichotomy i j with h | h | h
        · exact h
        · exact absurd h hij
        · have := hpre2 m0 (by omega) (hch m0 i (by omega) hil hij hm2 hm)
          rw [hm3] at this; cases this
      have hP2 : dj ∉ gnamesOf ops o := fun hmem2 => by
        rcases hnm i o ho hij (.inl hmem2) with h1 | ⟨x, hx1, hx2, hx3, hx4⟩
        · have := hP1 h1.1
          omega
        · have h1 := hpre2 x hx3 hx4
          rw [hlate x hx1 hx2 (by omega)] at h1; cases h1
      have hP3 : ∀ x p, ops[x]? = some p → (listed.getD x false && !Nat.beq x j) = true → ∀ e, e ∈ p.after.toList → Region.binds .any e = true → (listed.getD e.on false && !Nat.beq e.on j) = true := fun x p hx hlx e he1 he2 => by
        simp only [Bool.and_eq_true] at hlx ⊢
        refine ⟨hS x p hx hlx.1 e he1 he2, ?_⟩
        cases hb : Nat.beq e.on j with
        | false => rfl
        | true =>
          exfalso
          have hxj : x ≠ j := fun e2 => by rw [e2, Nat.beq_refl] at hlx; exact absurd hlx.2 (by simp)
          rcases hnm x p hx hxj (.inr ⟨e, he1, he2, Nat.eq_of_beq_eq_true hb⟩) with h1 | ⟨x2, hx1, hx2, hx3, hx4⟩
          · have h2 := hlate x h1.1 h1.2 (Array.getElem?_eq_some_iff.1 hx).1
            rw [hlx.1] at h2; cases h2
          · have h2 := before_closed (fun k => listed.getD k false) hS x x2 hx4 hlx.1
            rw [hlate x2 hx1 hx2 (by have := (Array.getElem?_eq_some_iff.1 hx).1; omega)] at h2; cases h2
      have hno2 : (listed.getD i false && !Nat.beq i j) = false := by rw [hno']; rfl
      have hpre3 : ∀ k, k < i → ((Region.before ops).getD i 0).testBit k = true → (listed.getD k false && !Nat.beq k j) = true := fun k hki hb => by
        have hcl2 : ∀ x p, ops[x]? = some p → ((listed.getD x false && !Nat.beq x j) || Nat.beq x i) = true → ∀ e, e ∈ p.after.toList → Region.binds .any e = true → ((listed.getD e.on false && !Nat.beq e.on j) || Nat.beq e.on i) = true := fun x p hx hlx e he1 he2 => by
          simp only [Bool.or_eq_true] at hlx ⊢
          rcases hlx with hlx | hlx
          · exact .inl (hP3 x p hx hlx e he1 he2)
          · obtain rfl := Nat.eq_of_beq_eq_true hlx
            obtain rfl := Option.some.inj (ho.symm.trans hx)
            refine .inl ?_
            rw [hpre e he1 he2]
            cases hb2 : Nat.beq e.on j with
            | false => rfl
            | true =>
              rcases hnm x o ho hij (.inr ⟨e, he1, he2, Nat.eq_of_beq_eq_true hb2⟩) with h1 | ⟨x2, hx1, hx2, hx3, hx4⟩
              · have := hP1 h1.1
                omega
              · have h2 := hpre2 x2 hx3 hx4
                rw [hlate x2 hx1 hx2 (by omega)] at h2; cases h2
        have h2 := before_closed (fun x => (listed.getD x false && !Nat.beq x j) || Nat.beq x i) hcl2 i k hb (by simp)
        have hb2 : Nat.beq k i = false := Bool.eq_false_iff.2 fun h => by have := Nat.eq_of_beq_eq_true h; omega
        simpa [hb2] using h2
      have hwj : ∀ k, k ≠ j → (bif Nat.beq k j then junk else W k) = W k := fun k hkj => by
        have hb : Nat.beq k j = false := Bool.eq_false_iff.2 fun h => hkj (Nat.eq_of_beq_eq_true h)
        rw [hb]; rfl
      have hag : ∀ t, t ∈ gnamesOf ops o → (envOf ops (fun k => bif Nat.beq k j then junk else W k) (fun k => listed.getD k false) e0 ops.size)[t]? = (E i)[t]? := fun t ht => by
        have h1 := envOf_but (ops := ops) (e0 := e0) (W := fun k => bif Nat.beq k j then junk else W k) (W' := W) (S := fun k => listed.getD k false) (S' := fun k => listed.getD k false && !Nat.beq k j) (j := j) (t := t) hwj (fun k hkj => by
          have hb : Nat.beq k j = false := Bool.eq_false_iff.2 fun h => hkj (Nat.eq_of_beq_eq_true h)
          simp only [hb, Bool.not_false, Bool.and_true]) (by rw [hdop]; intro e; cases e; exact hP2 ht) ops.size
        rw [h1, env_agreesG htm (S := fun k => listed.getD k false && !Nat.beq k j) hP3 ho hno2 hpre3 ht, envOf_lt i ops.size (by omega), hEi]
      have hgd : guardA ops o (envOf ops (fun k => bif Nat.beq k j then junk else W k) (fun k => listed.getD k false) e0 ops.size) = guardA ops o (E i) := by
        unfold guardA
        cases hg : o.guard with
        | none => rfl
        | some p =>
          obtain ⟨j, want⟩ := p
          simp only
          cases hd2 : (ops[j]?).bind (·.dst) with
          | none => rfl
          | some t =>
            have := hag t (List.mem_append_right _ (by rw [hg]; show t ∈ (dstOf ops j).toList; unfold dstOf; rw [hd2]; simp))
            simp only [Option.bind_some, this]
      have hev : ∀ H2, evOp P call o (rho (envOf ops (fun k => bif Nat.beq k j then junk else W k) (fun k => listed.getD k false) e0 ops.size)) H2 = evOp P call o (rho (E i)) H2 := fun H2 =>
        evOp_names (hsel o hmem) fun t ht => hag t (List.mem_append_left _ ht)
      have hnow : mind i = true → hAt mind K (fun k => listed.getD k false && !Nat.beq k j) ops.size = K i := fun hm => by
        have e1 : hAt mind K (fun k => listed.getD k false && !Nat.beq k j) (i + (ops.size - i)) = hAt mind K (fun k => listed.getD k false && !Nat.beq k j) i := hAt_skip _ fun k h1 h2 h3 => by
          by_cases hki : k = i
          · subst hki; exact hno2
          by_cases hkj : k = j
          · subst hkj; rw [Nat.beq_refl]; simp
          · cases hlk : listed.getD k false with
            | false => rfl
            | true =>
              have := before_closed (fun k => listed.getD k false) hS k i (hch i k (by omega) (by omega) hkj hm h3) hlk
              rw [hno'] at this; cases this
        rw [show i + (ops.size - i) = ops.size by omega] at e1
        rw [e1]
        exact hAt_pre i (fun j hj hmj => hKs j (by omega) hmj) fun m hmi hmm => hpre3 m hmi (hch m i hmi hil hij hmm hm)
      have hthen : hAt mind K (fun k => (listed.setIfInBounds i true).getD k false && !Nat.beq k j) ops.size = if mind i = true then K (i + 1) else hAt mind K (fun k => listed.getD k false && !Nat.beq k j) ops.size := by
        have hfun2 : (fun k => (listed.setIfInBounds i true).getD k false && !Nat.beq k j) = fun k => (listed.getD k false || Nat.beq k i) && !Nat.beq k j := by
          funext k
          have h4 := congrFun hfun k
          rw [h4]
        by_cases hm : mind i = true
        · rw [if_pos hm, hfun2]
          have e1 : hAt mind K (fun k => (listed.getD k false || Nat.beq k i) && !Nat.beq k j) ((i + 1) + (ops.size - (i + 1))) = hAt mind K (fun k => (listed.getD k false || Nat.beq k i) && !Nat.beq k j) (i + 1) := hAt_skip _ fun k h1 h2 h3 => by
            by_cases hkj : k = j
            · subst hkj; rw [Nat.beq_refl]; simp
            have hb2 : Nat.beq k i = false := Bool.eq_false_iff.2 fun h => by have := Nat.eq_of_beq_eq_true h; omega
            rw [hb2, Bool.or_false]
            cases hlk : listed.getD k false with
            | false => rfl
            | true =>
              have := before_closed (fun k => listed.getD k false) hS k i (hch i k (by omega) (by omega) hkj hm h3) hlk
              rw [hno'] at this; cases this
          rw [show (i + 1) + (ops.size - (i + 1)) = ops.size by omega] at e1
          rw [e1]
          unfold hAt
          have hbij : Nat.beq i j = false := Bool.eq_false_iff.2 fun h => hij (Nat.eq_of_beq_eq_true h)
          rw [hm, Nat.beq_refl, Bool.or_true, hbij]
          rfl
        · rw [if_neg hm, hfun2]
          refine (hAt_congr _ fun k _ hmk => ?_).symm
          have hb2 : Nat.beq k i = false := Bool.eq_false_iff.2 fun h => by have := Nat.eq_of_beq_eq_true h; subst this; exact hm hmk
          rw [hb2, Bool.or_false]
      -- what comes next
      have go : ∀ (v' : Value) (w' : World) (φ' : Phi), Step P φ (hAt mind K (fun k => listed.getD k false && !Nat.beq k j) ops.size) w φ' (hAt mind K (fun k => (listed.setIfInBounds i true).getD k false && !Nat.beq k j) ops.size) w' → Sim P φ' (hAt mind K (fun k => (listed.setIfInBounds i true).getD k false && !Nat.beq k j) ops.size) w' →
          ValR P φ' (hAt mind K (fun k => (listed.setIfInBounds i true).getD k false && !Nat.beq k j) ops.size) w' (W i) v' → wpAny P .any ops Q fuel (listed.setIfInBounds i true) (a.put o.dst v') w' := by
        intro v' w' φ' st' hs' hv'
        have hrs : r < w.heap.size := (Array.getElem?_eq_some_iff.1 hr).1
        have hr' : w'.heap[(r : Nat)]? = some (.cells C te (0, 0)) := (st'.frame r hrs fun c δ b h _ => absurd h (hno c δ)).trans hr
        have hno3 : ∀ c δ, φ' c ≠ some (r, δ) := fun c δ h => by
          cases hφ : φ c with
          | some x =>
            have := st'.ext c x hφ
            rw [h] at this
            obtain rfl := Option.some.inj this
            exact hno c δ hφ
          | none =>
            obtain ⟨d, ε, b, hd2, _⟩ := st'.new c r δ hφ h hrs
            exact hno d ε hd2
        have hdne : o.dst ≠ some dj := fun e => hP2 (List.mem_append_left _ (by unfold namesOf; rw [e]; simp))
        have hrt' : dj < (a.put o.dst v').tmps.size → (a.put o.dst v').tmps[dj]? = some (mk r) := fun h9 => by
          cases hdo : o.dst with
          | none =>
            rw [hdo] at h9
            exact hrt h9
          | some t =>
            rw [hdo] at h9 hdne
            have hlt3 : dj < a.tmps.size := by simpa [Act.put] using h9
            show (a.tmps.setIfInBounds t v')[dj]? = _
            rw [Array.getElem?_setIfInBounds, if_neg (fun e => hdne (by rw [e]))]
            exact hrt hlt3
        have hst2 := st.trans hs0 st'
        have hWi : (bif Nat.beq i j then junk else W i) = W i := hwj i hij
        have he' : EnvR P φ' (hAt mind K (fun k => (listed.setIfInBounds i true).getD k false && !Nat.beq k j) ops.size) w' (envOf ops (fun k => bif Nat.beq k j then junk else W k) (fun k => (listed.setIfInBounds i true).getD k false) e0 ops.size) (a.put o.dst v').tmps := by
          rw [hadd]
          simp only [hWi]
          exact (he.mono st').put o.dst hv'
        have hlj' : (listed.setIfInBounds i true).getD j false = true := by have h4 := congrFun hfun j; rw [h4, hlj]; rfl
        by_cases hpd2 : ∃ m, m < j ∧ mind m = true ∧ (listed.setIfInBounds i true).getD m false = false
        · exact ihP _ _ _ φ' r (by simpa using hl) (by omega) hcl hlj' hpd2 hst2 hs' he' hr' hr0 hno3 hrt' (by rw [put_defers', hd])
        · -- all that stood ahead is done: it takes its place
          have hall : ∀ m, m < j → mind m = true → (listed.setIfInBounds i true).getD m false = true := fun m hmj hmm => by
            cases hlm : (listed.setIfInBounds i true).getD m false with
            | true => rfl
            | false => exact absurd ⟨m, hmj, hmm, hlm⟩ hpd2
          have hnone : ∀ k, j < k → k < ops.size → mind k = true → (listed.setIfInBounds i true).getD k false = false := fun k hjk hkl hmk => by
            have h4 := congrFun hfun k
            rw [h4, hlate k hmk hjk hkl]
            have hb2 : Nat.beq k i = false := Bool.eq_false_iff.2 fun h => by
              have := Nat.eq_of_beq_eq_true h; subst this
              have := hP1 hmk; omega
            rw [hb2]; rfl
          have hcur : hAt mind K (fun k => (listed.setIfInBounds i true).getD k false && !Nat.beq k j) ops.size = K j := by
            have e1 : hAt mind K (fun k => (listed.setIfInBounds i true).getD k false && !Nat.beq k j) (j + (ops.size - j)) = hAt mind K (fun k => (listed.setIfInBounds i true).getD k false && !Nat.beq k j) j := hAt_skip _ fun k h1 h2 h3 => by
              by_cases hkj : k = j
              · subst hkj; rw [Nat.beq_refl]; simp
              · rw [hnone k (by omega) (by omega) h3]; rfl
            rw [show j + (ops.size - j) = ops.size by omega] at e1
            rw [e1]
            refine hAt_pre j (fun j hj hmj => hKs j (by omega) hmj) fun m hmj hmm => ?_
            have hb : Nat.beq m j = false := Bool.eq_false_iff.2 fun h => by have := Nat.eq_of_beq_eq_true h; omega
            rw [hall m hmj hmm, hb]; rfl
          have hnext : hAt mind K (fun k => (listed.setIfInBounds i true).getD k false) ops.size = (K j).alloc (.cells C te) true := by
            have e1 : hAt mind K (fun k => (listed.setIfInBounds i true).getD k false) ((j + 1) + (ops.size - (j + 1))) = hAt mind K (fun k => (listed.setIfInBounds i true).getD k false) (j + 1) := hAt_skip _ fun k h1 h2 h3 => hnone k (by omega) (by omega) h3
            rw [show (j + 1) + (ops.size - (j + 1)) = ops.size by omega] at e1
            rw [e1, ← hnew.2]
            unfold hAt
            rw [hmj2, hlj']; rfl
          rw [hcur] at hst2 hs' he'
          have hfx : r ∉ fixedBlocks := fun hm9 => by have := (hs0.fix.2 r hm9).1; omega
          have hs2 := sim_bind hs' hr' hno3 hfx (hCj _ _ _)
          have hst3 := step_bind (o := .cells C te (0, 0)) (ex := true) hs0 hst2 hs'.wf hr0
          have hwk := wk_bind (o := .cells C te (0, 0)) (ex := true) hs' (r := r)
          refine ihN _ _ _ (upd φ' (K j).next (r, 0)) (by simpa using hl) (by omega) hcl (fun _ => hall) (by rw [hnext]; exact hst3) (by rw [hnext]; exact hs2) ?_ (by rw [put_defers', hd])
          rw [hnext]
          refine ⟨he'.1.trans (envOf_len2 _), fun t x y hx hy => ?_⟩
          by_cases htd : t = dj
          · subst htd
            have hx2 := envOf_one hdop hlj' hOneD ops.size hjl x hx
            have hlt9 := (Array.getElem?_eq_some_iff.1 hy).1
            rw [hrt' hlt9] at hy
            rw [← Option.some.inj hy, hx2, hnew.1]
            exact hmkj _ _ _ _
          · have hx3 := envOf_but (ops := ops) (e0 := e0) (W := fun k => bif Nat.beq k j then junk else W k) (W' := W) (S := fun k => (listed.setIfInBounds i true).getD k false) (S' := fun k => (listed.setIfInBounds i true).getD k false) (j := j) (t := t) hwj (fun _ _ => rfl) (by rw [hdop]; intro e; cases e; exact htd rfl) ops.size
            rw [← hx3] at hx
            exact (he'.2 t x y hx hy).wk hwk
      unfold wpOp
      rw [ho]
      simp only
      rcases hstp with ⟨hgt, hop⟩ | ⟨hgf, hwu, hks⟩
      · have hw := guard_wanted he (hgd.trans hgt)
        rw [if_pos hw]
        have hop2 : evOp P call o (rho (envOf ops (fun k => bif Nat.beq k j then junk else W k) (fun k => listed.getD k false) e0 ops.size)) (hAt mind K (fun k => listed.getD k false && !Nat.beq k j) ops.size) = some (W i, hAt mind K (fun k => (listed.setIfInBounds i true).getD k false && !Nat.beq k j) ops.size) := by
          rw [hev, hthen]
          by_cases hm : mind i = true
          · rw [if_pos hm, hnow hm]; exact hop
          · rw [if_neg hm]
            obtain ⟨j2, hj2, hj3, _⟩ := hAt_some mind K (fun k => listed.getD k false && !Nat.beq k j) ops.size
            rw [hj3]
            exact (hfree (Bool.eq_false_iff.2 hm)).2 hgt j2 hj2
        exact .inl (evOp_sound hp hcall hs (fun x => he.rho x) hop2 _ Q fun v' w' ⟨φ', st', hs', hv'⟩ => go v' w' φ' st' hs' hv')
      · have hw := guard_wanted he (hgd.trans hgf)
        rw [if_neg (by rw [hw]; simp)]
        have hsame : hAt mind K (fun k => (listed.setIfInBounds i true).getD k false && !Nat.beq k j) ops.size = hAt mind K (fun k => listed.getD k false && !Nat.beq k j) ops.size := by
          rw [hthen]
          by_cases hm : mind i = true
          · rw [if_pos hm, hnow hm, hks]
          · rw [if_neg hm]
        exact go undef w φ (by rw [hsame]; exact Step.refl hs) (by rw [hsame]; exact hs) (by rw [hwu]; exact val_undef)

theorem late_region (hm : P.follows .mixedOrders = true) (hp : ProgOk P) (hcall : CallOk P call) (hch : CallH call) {ld : Bool} (hok : lateReg P ops ld = true) {e e' : List Value} {H' : AH} (h : evOps P call ops ops.toList e H = some (e', H')) (hst : ld = true → stillAll ops e' H H' = true) :
    ∀ id φ w (a : Act) (Q : Exit → Act → World → Prop), Sim P φ H w → EnvR P φ H w e a.tmps → EndOk P φ H w e' H' a.defers (Q .normal) → (Code.region id ops true).wp P Q a w := by
  intro id φ w a Q hs he hk
  unfold lateReg at hok
  simp only [Bool.and_eq_true] at hok
  obtain ⟨⟨⟨⟨htm, hbk⟩, hld⟩, hsl⟩, hex⟩ := hok
  obtain ⟨jl, hjr, hjl⟩ := List.any_eq_true.1 hex
  simp only [Bool.and_eq_true] at hjl
  obtain ⟨hla, hcn⟩ := hjl
  have hsel : ∀ o, o ∈ ops → ∀ cs b, o.op ≠ .select cs b := fun o ho cs b e => by
    have := List.all_eq_true.1 hsl o (by simpa using ho)
    rw [e] at this
    simp [selB] at this
  obtain ⟨W, E, K, h1, h2, h3, h4, h5⟩ := trace _ _ _ _ _ h
  have hlen : ops.toList.length = ops.size := by simp
  rw [hlen] at h3 h4
  have step : ∀ i o, ops[i]? = some o → Stp P call ops o (E i) (K i) (W i) (K (i + 1)) ∧ E (i + 1) = putE (E i) o.dst (W i) := fun i o ho => h5 i o (by rw [Array.getElem?_toList]; exact ho)
  have hE : ∀ i, i ≤ ops.size → E i = envOf ops W (fun _ => true) e i := fun i hi => trace_env h1 (fun i o ho => (step i o ho).2) hi
  -- the heaps on the way
  have hup : ∀ i d, i + d ≤ ops.size → StepH (K i) (K (i + d)) := fun i d => by
    induction d with
    | zero => intro _; exact .refl
    | succ d ih =>
      intro hd
      have hlt : i + d < ops.size := by omega
      have ho : ops[i + d]? = some ops[i + d] := Array.getElem?_eq_getElem hlt
      refine (ih (by omega)).trans ?_
      rcases (step _ _ ho).1 with ⟨_, hop⟩ | ⟨_, _, hks⟩
      · exact evOp_h hch hop
      · rw [← Nat.add_assoc, hks]; exact .refl
  have hfrom : ∀ i, i ≤ ops.size → WfH (K i) ∧ HStep H (K i) := fun i hi => by
    have := hup 0 i (by omega)
    rw [h2, Nat.zero_add] at this
    exact this hs.wf
  have hto : ∀ i, i ≤ ops.size → HStep (K i) H' := fun i hi => by
    have := hup i (ops.size - i) (by omega)
    rw [show i + (ops.size - i) = ops.size by omega, h4] at this
    exact (this (hfrom i hi).1).2
  have hload : ld = true → ∀ i o t x, ops[i]? = some o → o.op = .load t x → ∀ ad, rho (E i) x = .pointer (some ad) → ∃ b, ∀ j, j ≤ ops.size → (K j).blk ad.block = some b ∧ (K j).live ad.block b = true := fun hldt i o t x ho hx ad had => by
    have hld : loadsB ops = true := by rw [hldt] at hld; simpa using hld
    have hst := hst hldt
    have hil : i < ops.size := (Array.getElem?_eq_some_iff.1 ho).1
    have hrho : rho e' x = rho (E i) x := by
      cases x with
      | tmp tm =>
        have hl2 := List.all_eq_true.1 hld i (List.mem_range.2 hil)
        rw [ho] at hl2
        simp only [hx] at hl2
        have := env_keep (t := tm) (fun i o ho => (step i o ho).2) (i := i) (ops.size - i) (by omega) fun k hk1 hk2 hd => by
          have hl3 := List.all_eq_true.1 hl2 k (List.mem_range.2 hk2)
          rw [hd] at hl3
          simp at hl3
          omega
        rw [show i + (ops.size - i) = ops.size by omega, h3] at this
        show e'.getD tm undef = (E i).getD tm undef
        rw [List.getD_eq_getElem?_getD, List.getD_eq_getElem?_getD, this]
      | _ => rfl
    have hst2 := List.all_eq_true.1 hst o (by simpa using Array.mem_of_getElem? ho)
    rw [hx] at hst2
    simp only [hrho, had, stillB] at hst2
    cases hb : H.blk ad.block with
    | none => rw [hb] at hst2; cases hst2
    | some b =>
      cases hb2 : H'.blk ad.block with
      | none => rw [hb, hb2] at hst2; cases hst2
      | some b' =>
        rw [hb, hb2] at hst2
        simp only [Bool.and_eq_true] at hst2
        exact ⟨b, fun j hj => still_mid hs.wf (hfrom j hj).2 (hto j hj) hb hb2 (Nat.eq_of_beq_eq_true hst2.1) hst2.2⟩
  have hB : RowKit.Below w.heap.size w { w with drawn := w.drawn + 1 } := (RowKit.Below.refl _ w).drew
  have hs1 := sim_below hs hB
  have st1 := step_below hs hB
  have hf0 : ∀ k, (Array.replicate ops.size false).getD k false = false := fun k => by
    rw [Array.getD_eq_getD_getElem?, Array.getElem?_replicate]; split <;> rfl
  have hh9 : ∀ mind : Nat → Bool, hAt mind K (fun k => (Array.replicate ops.size false).getD k false) ops.size = H := fun mind => by
    have := hAt_skip (mind := mind) (K := K) (S := fun k => (Array.replicate ops.size false).getD k false) (i := 0) ops.size fun k _ _ _ => hf0 k
    rw [Nat.zero_add] at this
    rw [this]; exact h2
  have hh0 := hh9 (heapB P ops ld)
  -- the new variable
  obtain ⟨oj, dj, hoj, hopj, hdj, hall⟩ : ∃ oj dj, ops[jl]? = some oj ∧ ((∃ te, oj.op = .alloc te) ∨ ∃ t n ps, oj.op = .buildSlice t n ps ∧ constP ps = true) ∧ oj.dst = some dj ∧
      ∀ k p, ops[k]? = some p → k ≠ jl → p.dst ≠ some dj ∧ ((dj ∈ gnamesOf ops p ∨ ∃ e, e ∈ p.after.toList ∧ Region.binds .any e = true ∧ e.on = jl) → (heapB P ops ld k = true ∧ jl < k) ∨ ∃ x, heapB P ops ld x = true ∧ jl < x ∧ x < k ∧ ((Region.before ops).getD k 0).testBit x = true) := by
    unfold lateAt at hla
    cases hoj : ops[jl]? with
    | none => rw [hoj] at hla; cases hla
    | some oj =>
      rw [hoj] at hla
      simp only [Bool.and_eq_true] at hla
      obtain ⟨h6, h8⟩ := hla
      cases hdj : oj.dst with
      | none => rw [hdj] at h8; cases h8
      | some dj =>
        rw [hdj] at h8
        have hop : (∃ te, oj.op = .alloc te) ∨ ∃ t n ps, oj.op = .buildSlice t n ps ∧ constP ps = true := by
          split at h6
          · rename_i te h9; exact .inl ⟨te, h9⟩
          · rename_i t n ps h9; exact .inr ⟨t, n, ps, h9, h6⟩
          · cases h6
        refine ⟨oj, dj, rfl, hop, hdj, fun k p hp2 hkj => ?_⟩
        have h9 := List.all_eq_true.1 h8 k (List.mem_range.2 (Array.getElem?_eq_some_iff.1 hp2).1)
        have hb : Nat.beq k jl = false := Bool.eq_false_iff.2 fun h => hkj (Nat.eq_of_beq_eq_true h)
        rw [hb, hp2] at h9
        simp only [Bool.false_or, Bool.and_eq_true] at h9
        obtain ⟨h10, h11⟩ := h9
        refine ⟨fun e9 => ?_, fun hor => ?_⟩
        · rw [e9] at h10
          simp at h10
        · have h12 : ((gnamesOf ops p).contains dj || p.after.toList.any fun e => Region.binds .any e && Nat.beq e.on jl) = true := by
            rcases hor with h | ⟨e, h1, h2, h3⟩
            · simp [h]
            · rw [Bool.or_eq_true]
              exact .inr (List.any_eq_true.2 ⟨e, h1, by rw [h2, h3]; simp⟩)
          rw [h12] at h11
          simp only [Bool.not_true, Bool.false_or, Bool.or_eq_true, Bool.and_eq_true, List.any_eq_true, List.mem_range] at h11
          rcases h11 with h11 | ⟨x, hx1, hx2⟩
          · exact .inl ⟨h11.1, by simpa using h11.2⟩
          · exact .inr ⟨x, hx2.1.1, by simpa using hx2.1.2, hx1, hx2.2⟩
  have hjlt : jl < ops.size := (Array.getElem?_eq_some_iff.1 hoj).1
  have hch9 : ∀ i k, i < k → k < ops.size → k ≠ jl → heapB P ops ld i = true → heapB P ops ld k = true → ((Region.before ops).getD k 0).testBit i = true := by
    intro i k hik hkl hkj hmi hmk
    have h6 := List.all_eq_true.1 hcn k (List.mem_range.2 hkl)
    have hb : Nat.beq k jl = false := Bool.eq_false_iff.2 fun h => hkj (Nat.eq_of_beq_eq_true h)
    rw [hmk, hb] at h6
    have h7 := List.all_eq_true.1 h6 i (List.mem_range.2 hik)
    rw [hmi] at h7
    exact h7
  have hE9 : ∀ i o, ops[i]? = some o → heapB P ops ld i = false → K (i + 1) = K i ∧ (guardA ops o (E i) = some true → ∀ j, j ≤ ops.size → evOp P call o (rho (E i)) (K j) = some (W i, K j)) := by
    intro i o ho hmi
    unfold heapB at hmi
    rw [ho] at hmi
    simp only at hmi
    have hcase : freeB P o.op = true ∨ (ld = true ∧ loadB o.op = true) := by
      cases hf : freeB P o.op with
      | true => exact .inl rfl
      | false =>
        cases hl : loadB o.op with
        | true => exact .inr ⟨by rw [hf, hl] at hmi; simpa using hmi, rfl⟩
        | false => rw [hf, hl] at hmi; simp at hmi
    have hstp := (step i o ho).1
    rcases hcase with hf | ⟨hldt, hl⟩
    · obtain ⟨r, hr⟩ := evOp_free (call := call) (ρ := rho (E i)) hf
      rcases hstp with ⟨hg, hop⟩ | ⟨hg, _, hks⟩
      · rw [hr] at hop
        cases r with
        | none => cases hop
        | some y =>
          simp only [Option.map_some, Option.some.injEq, Prod.mk.injEq] at hop
          exact ⟨hop.2.symm, fun _ j _ => by rw [hr, ← hop.1]; rfl⟩
      · exact ⟨hks, fun hg2 => by rw [hg] at hg2; cases hg2⟩
    · have hil : i < ops.size := (Array.getElem?_eq_some_iff.1 ho).1
      rcases hstp with ⟨hg, hop⟩ | ⟨hg, _, hks⟩
      · cases hx : o.op with
        | load t x =>
          have key : ∀ j, j ≤ ops.size → evOp P call o (rho (E i)) (K j) = some (W i, K j) ∧ K (i + 1) = K i := fun j hj =>
            load_same hx hop fun ad had => by
              obtain ⟨b, hb⟩ := hload hldt i o t x ho hx ad had
              exact ⟨b, (hb i (by omega)).1, (hb i (by omega)).2, (hb j hj).1, (hb j hj).2⟩
          exact ⟨(key i (by omega)).2, fun _ j hj => (key j hj).1⟩
        | _ => rw [hx] at hl; cases hl
      · exact ⟨hks, fun hg2 => by rw [hg] at hg2; cases hg2⟩
  have hk9 : ∀ (φ' : Phi) (w' : World) (a' : Act), Step P φ H w φ' (K ops.size) w' → Sim P φ' (K ops.size) w' → EnvR P φ' (K ops.size) w' (envOf ops W (fun _ => true) e ops.size) a'.tmps → a'.defers = a.defers → Q .normal a' w' := by
    intro φ' w' a' st hs' he' hd
    rw [h4] at st hs' he'
    rw [← hE _ (Nat.le_refl _), h3] at he'
    exact hk φ' w' a' st hs' he' hd
  have henv9 : ∀ n, envOf ops W (fun k => (Array.replicate ops.size false).getD k false) e n = e := by
    intro n
    induction n with
    | zero => rfl
    | succ n ih =>
      have hf := hf0 n
      simp only [envOf, hf, Bool.false_eq_true, if_false]
      exact ih
  rcases (step jl oj hoj).1 with ⟨hgo, hop0⟩ | ⟨hgf, hWu, hKu⟩
  rotate_left
  · refine wp_region_any hm (many_any hp hcall htm hbk hsel (mind := fun k => heapB P ops ld k && !Nat.beq k jl) (E := E) (W := W) (K := K) (e0 := e) (φ0 := φ) (w0 := w) (df := a.defers) h2 (fun i k hik hkl hmi hmk => ?_) (fun i o ho => ⟨(step i o ho).1, hE i (by have := (Array.getElem?_eq_some_iff.1 ho).1; omega), fun hmi => ?_⟩) hs hk9 ops.size _ a _ φ (by simp) ?_ ?_ (by rw [hh9]; exact st1) (by rw [hh9]; exact hs1) (by rw [henv9, hh9]; exact he.mono st1) rfl)
    · simp only [Bool.and_eq_true] at hmi hmk
      refine hch9 i k hik hkl (fun e9 => ?_) hmi.1 hmk.1
      rw [e9, Nat.beq_refl] at hmk
      simp at hmk
    · by_cases hij : i = jl
      · subst hij
        obtain rfl : oj = o := Option.some.inj (hoj.symm.trans ho)
        exact ⟨hKu, fun h9 => by rw [hgf] at h9; cases h9⟩
      · have hb : Nat.beq i jl = false := Bool.eq_false_iff.2 fun h => hij (Nat.eq_of_beq_eq_true h)
        simp only [hb, Bool.not_false, Bool.and_true] at hmi
        obtain ⟨k1, k2⟩ := hE9 i o ho hmi
        exact ⟨k1, fun hg j hj _ _ => k2 hg j hj⟩
    · exact Nat.le_trans (List.length_filter_le _ _) (by simp)
    · intro j o _ hj
      rw [hf0] at hj; cases hj
  obtain ⟨te, C, mk, hnew9, hrun9, hC9, hmk9⟩ : ∃ (te : TypeId) (C : Array Value) (mk : Nat → Value), (W jl = mk (K jl).next ∧ K (jl + 1) = (K jl).alloc (.cells C te) true) ∧
      (∀ (a : Act) (w : World), (execOp a.eval oj).run P w = .ok (.value (mk w.heap.size)) { w with heap := w.heap.push (.cells C te) }) ∧ (∀ (φ : Phi) (H : AH) (w : World) (i : Nat) (x y : Value), C[i]? = some x → C[i]? = some y → CellR P φ H w x y) ∧
      (∀ (φ : Phi) (H : AH) (w : World) (r : Nat), ValR P (upd φ H.next (r, 0)) (H.alloc (.cells C te) true) w (mk H.next) (mk r)) := by
    have hop : evOp P call oj (rho (E jl)) (K jl) = some (W jl, K (jl + 1)) := by
      exact hop0
    rcases hopj with ⟨te, hopj⟩ | ⟨t, n, ps, hopj, hcp⟩
    · unfold evOp at hop
      simp only [hopj] at hop
      cases hz : zeroT P te with
      | none => rw [hz] at hop; cases hop
      | some z =>
        rw [hz] at hop
        simp only [Option.some.injEq, Prod.mk.injEq] at hop
        obtain ⟨zi, hzi, hziz, hzf⟩ := zero_info hz
        exact ⟨te, z.cells, fun r => .pointer (some ⟨r, 0, none⟩), ⟨hop.1.symm, hop.2.symm⟩, fun a w => by simp [execOp, hopj, Instr.alloc, zeroValue, typeInfo, hzi, hziz, newVar, newRow], fun φ H w => (zero_cells hzf).2,
          fun φ H w r => .part (.cell (.atom (.ptr (.inr ⟨rfl, rfl, 0, upd_same, rfl⟩))))⟩
    · unfold evOp at hop
      simp only [hopj] at hop
      obtain ⟨e9, C, h1, h2, h3, h4, h5⟩ := built_const (o := oj) hopj hcp (fun v hv => by show (bif flatB v then v else junk) = v; rw [flatB_of_atom hv]; rfl) hop
      refine ⟨e9, C, fun r => .slice (some ⟨r, 0, none⟩) n n, ⟨h1, h2⟩, fun a w => h3 a.eval (fun v _ => rfl) w, fun φ H w => (h4 φ H w).2, fun φ H w r => .part (.cell (.atom (.slice (.inr (.inr (.inl ⟨rfl, rfl, 0, C, e9, (0, 0), _, upd_same, rfl, blk_alloc_new, rfl, Nat.le_refl _, ?_, .inl rfl⟩))))))⟩
      simpa using h5
  have hmj : heapB P ops ld jl = true := by
    unfold heapB
    rw [hoj]
    rcases hopj with ⟨te, hopj⟩ | ⟨t, n, ps, hopj, _⟩ <;> simp only [hopj, freeB, loadB, Bool.and_false, Bool.not_false, Bool.and_self]
  refine wp_region_any hm ((late_any hp hcall htm hbk hsel (mk := mk) (mind := heapB P ops ld) (E := E) (W := W) (K := K) (e0 := e) (φ0 := φ) (w0 := w) (df := a.defers) h2 hoj hgo hdj hnew9 hrun9 hC9 hmk9 hmj (fun k p hp2 hkj hor => (hall k p hp2 hkj).2 hor) (fun k hkj h9 => ?_) hch9 (fun i o ho => ⟨(step i o ho).1, hE i (by have := (Array.getElem?_eq_some_iff.1 ho).1; omega), hE9 i o ho⟩) hs hk9 ops.size).1 _ a _ φ (by simp) ?_ ?_ (fun h9 => by rw [hf0] at h9; cases h9) ?_ ?_ ?_ rfl)
  · unfold dstOf at h9
    cases ho : ops[k]? with
    | none => rw [ho] at h9; cases h9
    | some p =>
      rw [ho] at h9
      exact (hall k p ho hkj).1 h9
  · exact Nat.le_trans (List.length_filter_le _ _) (by simp)
  · intro j o _ hj
    rw [hf0] at hj; cases hj
  · rw [hh0]; exact st1
  · rw [hh0]; exact hs1
  · have : ∀ n, envOf ops W (fun k => (Array.replicate ops.size false).getD k false) e n = e := by
      intro n
      induction n with
      | zero => rfl
      | succ n ih =>
        have hf := hf0 n
        simp only [envOf, hf, Bool.false_eq_true, if_false]
        exact ih
    rw [this, hh0]
    exact he.mono st1
end
end Go.Proofs.YtaadahhjdkkkaaaGreatDoor.Ev
