/-
  The evaluator's heap and the world, step by step: a new block, a write, a copy that may be a growth in place.
-/
import Derived.Test.YtofigleaealbjaaGreatDoorEvHeap
namespace Go.Proofs.YtofigleaealbjaaGreatDoor.Ev
open Go

def SameOut (w w' : World) : Prop := w'.os = w.os ∧ w'.tape = w.tape ∧ w'.output = w.output
theorem SameOut.refl (w : World) : SameOut w w := ⟨rfl, rfl, rfl⟩
theorem SameOut.trans {a b c : World} (h : SameOut a b) (k : SameOut b c) : SameOut a c := ⟨k.1.trans h.1, k.2.1.trans h.2.1, k.2.2.trans h.2.2⟩

def upd (φ : Phi) (c : Nat) (x : Nat × Nat) : Phi := fun d => if d = c then some x else φ d
theorem upd_same {φ : Phi} {c : Nat} {x : Nat × Nat} : upd φ c x c = some x := by simp [upd]
theorem upd_ne {φ : Phi} {c d : Nat} {x : Nat × Nat} (h : d ≠ c) : upd φ c x d = φ d := by simp [upd, h]

section
variable {P : Program} {φ φ' φ'' : Phi} {H H' H'' : AH} {w w' w'' : World}

theorem Sim.lt (hs : Sim P φ H w) {c : Nat} {x : Nat × Nat} (h : φ c = some x) : c < H.next := by
  obtain ⟨b, hb⟩ := hs.blk c x.1 x.2 h
  exact (hs.wf.lt c b hb).1

theorem Sim.fresh (hs : Sim P φ H w) : φ H.next = none := by
  cases h : φ H.next with
  | none => rfl
  | some x => exact absurd (hs.lt h) (by omega)

/-- The world's other parts may turn. -/
theorem Step.of_heap (hs : Sim P φ H w) (hh : w'.heap = w.heap) (ho : SameOut w w') : Step P φ H w φ H w' where
  h := HStep.refl hs.wf.shp
  ext := fun _ _ h => h
  old := fun _ _ h => h
  os := ho.1
  tape := ho.2.1
  output := ho.2.2
  size := by rw [hh]; exact Nat.le_refl _
  shape := fun r C e fr h => ⟨C, fr, by rw [hh]; exact h, rfl⟩
  frame := fun r _ _ => by rw [hh]
  new := fun c r δ h h' => by rw [h] at h'; cases h'
  heads := fun _ _ _ _ => rfl

theorem Step.refl (hs : Sim P φ H w) : Step P φ H w φ H w := Step.of_heap hs rfl (SameOut.refl w)

theorem Step.trans (hs : Sim P φ H w) (s : Step P φ H w φ' H' w') (t : Step P φ' H' w' φ'' H'' w'') : Step P φ H w φ'' H'' w'' where
  h := s.h.trans t.h
  ext := fun c x h => t.ext c x (s.ext c x h)
  old := fun c hc h => t.old c (Nat.lt_of_lt_of_le hc s.h.next) (s.old c hc h)
  os := t.os.trans s.os
  tape := t.tape.trans s.tape
  output := t.output.trans s.output
  size := Nat.le_trans s.size t.size
  shape := fun r C e fr h => by
    obtain ⟨C1, f1, h1, h2⟩ := s.shape r C e fr h
    obtain ⟨C2, f2, h3, h4⟩ := t.shape r C1 e f1 h1
    exact ⟨C2, f2, h3, h4.trans h2⟩
  frame := fun r hr hc => by
    have roT : ∀ c b, H.blk c = some b → RO φ H b → ∀ b1, H'.blk c = some b1 → RO φ' H' b1 := fun c b h2 hro b1 hb1 => by
      obtain ⟨b1', e1, er, ex, _⟩ := s.h.blk c b h2
      rw [hb1] at e1; obtain rfl := Option.some.inj e1
      refine ⟨ex.trans hro.1, ?_⟩
      rw [er, s.heads c b h2 hro.2]
      exact s.old _ (hs.wf.head c b h2).2 hro.2
    have key : ∀ c δ b, φ c = some (r, δ) → H.blk c = some b → RO φ H b ∨ (b.exact = true ∧ ∃ b1, H'.blk c = some b1 ∧ b1 = b) := fun c δ b h1 h2 => by
      rcases hc c δ b h1 h2 with h | ⟨he, b2, hb2, hv⟩
      · exact .inl h
      obtain ⟨b1, hb1, _, _, _, _, h6⟩ := s.h.blk c b h2
      refine .inr ⟨he, b1, hb1, ?_⟩
      rcases h6 with ⟨_, h6⟩ | h6
      · exact h6
      · exfalso
        obtain ⟨b3, hb3, _, _, _, _, k6⟩ := t.h.blk c b1 hb1
        rw [hb2] at hb3; obtain rfl := Option.some.inj hb3
        have hlt := hs.wf.ver c b h2
        have hclk := s.h.clock
        rcases k6 with ⟨k6, _⟩ | k6 <;> omega
    rw [t.frame r (Nat.lt_of_lt_of_le hr s.size), s.frame r hr]
    · intro c δ b h1 h2
      rcases key c δ b h1 h2 with h | ⟨he, b1, hb1, rfl⟩
      · exact .inl h
      · exact .inr ⟨he, b1, hb1, rfl⟩
    · intro c δ b1 h1 h2
      cases h0 : φ c with
      | none =>
        obtain ⟨d, ε, b, hd, hb, hx, hm⟩ := s.new c r δ h0 h1 hr
        rcases key d ε b hd hb with h | ⟨he, _⟩
        · exact absurd h.2 hm
        · rw [hx] at he; cases he
      | some x =>
        have := s.ext c x h0
        rw [h1] at this; obtain rfl := Option.some.inj this
        obtain ⟨b0, hb0⟩ := hs.blk c r δ h0
        rcases key c δ b0 h0 hb0 with h | ⟨he, b2, hb2, rfl⟩
        · exact .inl (roT c b0 hb0 h b1 h2)
        · rcases hc c δ b2 h0 hb0 with h | ⟨_, b3, hb3, hv⟩
          · exact .inl (roT c b2 hb0 h b1 h2)
          · rw [hb2] at h2; obtain rfl := Option.some.inj h2
            exact .inr ⟨he, b3, hb3, hv⟩
  new := fun c r δ h0 h2 hr => by
    cases h1 : φ' c with
    | some x =>
      have := t.ext c x h1
      rw [h2] at this; obtain rfl := Option.some.inj this
      exact s.new c r δ h0 h1 hr
    | none =>
      obtain ⟨d, ε, b1, hd, hb1, hx, hm⟩ := t.new c r δ h1 h2 (Nat.lt_of_lt_of_le hr s.size)
      cases hd0 : φ d with
      | none => exact s.new d r ε hd0 hd hr
      | some x =>
        have := s.ext d x hd0
        rw [hd] at this; obtain rfl := Option.some.inj this
        obtain ⟨b0, hb0⟩ := hs.blk d r ε hd0
        obtain ⟨b2, hb2, hrt, hex, _⟩ := s.h.blk d b0 hb0
        rw [hb1] at hb2; obtain rfl := Option.some.inj hb2
        refine ⟨d, ε, b0, hd0, hb0, hex ▸ hx, fun hn => hm ?_⟩
        rw [hrt, s.heads d b0 hb0 hn]
        exact s.old _ (hs.wf.head d b0 hb0).2 hn
  heads := fun c b hb hn => by
    obtain ⟨b1, hb1, er, _⟩ := s.h.blk c b hb
    have e1 := s.heads c b hb hn
    have e2 := t.heads c b1 hb1 (by rw [er, e1]; exact s.old _ (hs.wf.head c b hb).2 hn)
    rw [er] at e2
    exact e2.trans e1

theorem ObjR.mono (s : Step P φ H w φ' H' w') {c : Nat} {b : Blk} {r δ : Nat} (hr : w'.heap[r]? = w.heap[r]?) (ht : H'.tip c b = true → H.tip c b = true)
    (h : ObjR P φ H w c b r δ) : ObjR P φ' H' w' c b r δ := by
  unfold ObjR at *
  split
  · rename_i C e fr ho
    simp only [ho] at h
    obtain ⟨C', fr', h1, h2, h3, h4, h5, h6⟩ := h
    exact ⟨C', fr', hr.trans h1, h2, fun i x y hx hy => (h3 i x y hx hy).mono s, h4, fun hh => h5 (ht hh), h6⟩
  · rename_i hno
    split at h
    · rename_i C e fr ho; exact absurd ho (hno C e fr)
    · exact ⟨h.1, h.2.1, hr.trans h.2.2⟩

/-! ### A new block -/
theorem step_alloc (hs : Sim P φ H w) {o o' : Obj} {ex : Bool} (hh : w'.heap = w.heap.push o') (ho : SameOut w w') :
    Step P φ H w (upd φ H.next (w.heap.size, 0)) (H.alloc o ex) w' where
  h := HStep.alloc hs.wf
  ext := fun c x h => by rw [upd_ne (by have := hs.lt h; omega)]; exact h
  old := fun c hc h => by rw [upd_ne (by omega)]; exact h
  os := ho.1
  tape := ho.2.1
  output := ho.2.2
  size := by rw [hh]; simp
  shape := fun r C e fr h => ⟨C, fr, by rw [hh, Array.getElem?_push, if_neg (by have := (Array.getElem?_eq_some_iff.1 h).1; omega)]; exact h, rfl⟩
  frame := fun r hr _ => by rw [hh, Array.getElem?_push, if_neg (by omega)]
  new := fun c r δ h h' hr => by
    unfold upd at h'; split at h'
    · obtain h' := Option.some.inj h'; simp only [Prod.mk.injEq] at h'; omega
    · rw [h] at h'; cases h'
  heads := fun _ _ _ _ => rfl

theorem sim_alloc (hs : Sim P φ H w) {o o' : Obj} {ex : Bool} (hh : w'.heap = w.heap.push o') (ho : SameOut w w') (hsh : shapeSame o o)
    (hobj : ObjR P (upd φ H.next (w.heap.size, 0)) (H.alloc o ex) w' H.next ⟨o, H.next, ex, H.clock⟩ w.heap.size 0) :
    Sim P (upd φ H.next (w.heap.size, 0)) (H.alloc o ex) w' := by
  have hst := step_alloc (ex := ex) (o := o) hs hh ho
  have hget : ∀ k, k < w.heap.size → w'.heap[k]? = w.heap[k]? := fun k hk => by rw [hh, Array.getElem?_push, if_neg (by omega)]
  have hcase : ∀ c r δ, upd φ H.next (w.heap.size, 0) c = some (r, δ) → (c = H.next ∧ r = w.heap.size ∧ δ = 0) ∨ (c ≠ H.next ∧ φ c = some (r, δ) ∧ r < w.heap.size) := fun c r δ h => by
    unfold upd at h; split at h
    · rename_i e; obtain h := Option.some.inj h; simp only [Prod.mk.injEq] at h; exact .inl ⟨e, h.1.symm, h.2.symm⟩
    · rename_i e; exact .inr ⟨e, h, hs.real c r δ h⟩
  have hblk : ∀ c, c ≠ H.next → (H.alloc o ex).blk c = H.blk c := fun c hc => by rw [blk_alloc, if_neg hc]
  constructor
  case wf => exact hs.wf.alloc hsh
  case blk =>
    intro c r δ h
    rcases hcase c r δ h with ⟨rfl, _, _⟩ | ⟨hc, h, _⟩
    · exact ⟨_, blk_alloc_new⟩
    · rw [hblk c hc]; exact hs.blk c r δ h
  case real =>
    intro c r δ h
    rw [hh]; simp
    rcases hcase c r δ h with ⟨_, rfl, _⟩ | ⟨_, _, h⟩ <;> omega
  case fix =>
    refine ⟨Tabs_local (fun g hg => hget g (hs.fix.2 g hg).1) hs.fix.1, fun g hg => ⟨?_, fun c δ b h hb => ?_⟩⟩
    · rw [hh]; simp; have := (hs.fix.2 g hg).1; omega
    · rcases hcase c g δ h with ⟨_, h2, _⟩ | ⟨hc', h2, _⟩
      · have := (hs.fix.2 g hg).1; omega
      · rw [hblk c hc'] at hb
        have hro := (hs.fix.2 g hg).2 c δ b h2 hb
        exact ⟨hro.1, by rw [grp_alloc, upd_ne (by have := (hs.wf.head c b hb).2; omega)]; exact hro.2⟩
  case obj =>
    intro c r δ b h hb hl
    rcases hcase c r δ h with ⟨rfl, rfl, rfl⟩ | ⟨hc, h, hr⟩
    · rw [blk_alloc_new] at hb; obtain rfl := Option.some.inj hb; exact hobj
    · rw [hblk c hc] at hb
      exact ObjR.mono hst (hget r hr) id (hs.obj c r δ b h hb hl)
  case sep =>
    intro c d r δ ε b b' h k hb hb'
    rcases hcase c r δ h with ⟨rfl, rfl, rfl⟩ | ⟨hc, h, hr⟩ <;> rcases hcase d _ ε k with ⟨rfl, h2, rfl⟩ | ⟨hd, k, hr'⟩
    · rw [hb] at hb'; obtain rfl := Option.some.inj hb'; rfl
    · omega
    · omega
    · rw [hblk c hc] at hb; rw [hblk d hd] at hb'; exact hs.sep c d r δ ε b b' h k hb hb'
  case ends =>
    intro c d r δ ε b b' C C' e e' f f' h k hb hb' hcd hC hC'
    rcases hcase c r δ h with ⟨rfl, rfl, rfl⟩ | ⟨hc, h, hr⟩ <;> rcases hcase d _ ε k with ⟨rfl, h2, rfl⟩ | ⟨hd, k, hr'⟩
    · rw [hb] at hb'; obtain rfl := Option.some.inj hb'; rw [hC] at hC'; cases hC'; exact Nat.le_refl _
    · omega
    · omega
    · rw [hblk c hc] at hb; rw [hblk d hd] at hb'; exact hs.ends c d r δ ε b b' C C' e e' f f' h k hb hb' hcd hC hC'

/-! ### A write -/
theorem step_put (hs : Sim P φ H w) {c r δ : Nat} {b : Blk} {o o' : Obj} (hφ : φ c = some (r, δ)) (hb : H.blk c = some b) (hl : H.live c b = true) (ht : H.tip c b = true)
    (hsh : shapeSame b.obj o) (hsz : w'.heap.size = w.heap.size) (hh : ∀ k, w'.heap[k]? = if k = r then some o' else w.heap[k]?) (ho : SameOut w w')
    (hreal : ∀ C e fr, w.heap[r]? = some (.cells C e fr) → ∃ C' fr', o' = .cells C' e fr' ∧ C'.size = C.size) :
    Step P φ H w φ (H.put c b o) w' where
  h := HStep.put hs.wf hb hl hsh
  ext := fun _ _ h => h
  old := fun _ _ h => h
  os := ho.1
  tape := ho.2.1
  output := ho.2.2
  size := by rw [hsz]; exact Nat.le_refl _
  shape := fun k C e fr h => by
    rw [hh]
    split
    · rename_i e1; subst e1; obtain ⟨C', fr', rfl, h2⟩ := hreal C e fr h; exact ⟨C', fr', rfl, h2⟩
    · exact ⟨C, fr, h, rfl⟩
  frame := fun k _ hc => by
    rw [hh]
    split
    · rename_i e1; subst e1
      rcases hc c δ b hφ hb with h | ⟨_, b', h1, h2⟩
      · have := h.2
        rw [tip_iff.1 ht, hφ] at this; cases this
      rw [blk_put_same] at h1; obtain rfl := Option.some.inj h1
      have := hs.wf.ver c b hb
      simp only at h2; omega
    · rfl
  new := fun d k ε h h' => by rw [h] at h'; cases h'
  heads := fun d b' _ _ => by rw [grp_put]; split
                              · rename_i e; rw [e]
                              · rfl

theorem sim_put (hs : Sim P φ H w) {c r δ : Nat} {b : Blk} {o o' : Obj} (hφ : φ c = some (r, δ)) (hb : H.blk c = some b) (hl : H.live c b = true) (ht : H.tip c b = true)
    (hsh : shapeSame b.obj o) (hsh' : shapeSame o o) (hsz : w'.heap.size = w.heap.size) (hh : ∀ k, w'.heap[k]? = if k = r then some o' else w.heap[k]?) (ho : SameOut w w')
    (hreal : ∀ C e fr, w.heap[r]? = some (.cells C e fr) → ∃ C' fr', o' = .cells C' e fr' ∧ C'.size = C.size)
    (hobj : ObjR P φ (H.put c b o) w' c ⟨o, b.root, b.exact, H.clock⟩ r δ) : Sim P φ (H.put c b o) w' := by
  have hst := step_put (o := o) hs hφ hb hl ht hsh hsz hh ho hreal
  have hcell : ∀ d C e f, (∃ b', (H.put c b o).blk d = some b' ∧ b'.obj = .cells C e f) → ∃ b0 C0 f0, H.blk d = some b0 ∧ b0.obj = .cells C0 e f0 ∧ C0.size = C.size := fun d C e f ⟨b', h1, h2⟩ => by
    rw [blk_put] at h1
    split at h1
    · rename_i e1; subst e1; obtain rfl := Option.some.inj h1
      refine ⟨b, ?_⟩
      simp only at h2; subst h2
      cases hbo : b.obj <;> rw [hbo] at hsh <;> simp [shapeSame] at hsh
      rename_i C0 e0 f0
      obtain ⟨h3, rfl⟩ := hsh
      exact ⟨C0, f0, hb, rfl, h3⟩
    · exact ⟨b', C, f, h1, h2, rfl⟩
  constructor
  case wf => exact hs.wf.put hb hl ht hsh'
  case blk =>
    intro d k ε h
    obtain ⟨b0, h0⟩ := hs.blk d k ε h
    rw [blk_put]; split
    · exact ⟨_, rfl⟩
    · exact ⟨b0, h0⟩
  case real => intro d k ε h; rw [hsz]; exact hs.real d k ε h
  case fix =>
    have hne : ∀ g, g ∈ fixedBlocks → g ≠ r := fun g hg e => by
      have := ((hs.fix.2 g hg).2 c δ b (e ▸ hφ) hb).2
      rw [tip_iff.1 ht, hφ] at this; cases this
    refine ⟨Tabs_local (fun g hg => by rw [hh, if_neg (hne g hg)]) hs.fix.1, fun g hg => ⟨by rw [hsz]; exact (hs.fix.2 g hg).1, fun d ε b' hd hb' => ?_⟩⟩
    have hdc : d ≠ c := fun e => hne g hg (by rw [e, hφ] at hd; exact ((Prod.mk.inj (Option.some.inj hd)).1).symm)
    rw [blk_put, if_neg hdc] at hb'
    have hro := (hs.fix.2 g hg).2 d ε b' hd hb'
    refine ⟨hro.1, ?_⟩
    rw [grp_put]
    split
    · rename_i e; rw [← e]; exact hro.2
    · exact hro.2
  case obj =>
    intro d k ε b' h hd hl'
    by_cases e : d = c
    · subst e
      rw [blk_put_same] at hd; obtain rfl := Option.some.inj hd
      rw [hφ] at h; obtain h := Option.some.inj h; simp only [Prod.mk.injEq] at h
      obtain ⟨rfl, rfl⟩ := h; exact hobj
    · rw [blk_put, if_neg e] at hd
      have hroot : b'.root ≠ b.root := fun er => by
        rw [live_iff, grp_put, if_pos er] at hl'
        rw [tip_iff] at ht
        have := (hs.wf.head d b' hd).1
        rw [er, ht] at this
        simp only at hl'; omega
      have hk : k ≠ r := fun ek => by subst ek; exact hroot (hs.sep d c k ε δ b' b h hφ hd hb)
      refine ObjR.mono hst (by rw [hh, if_neg hk]) ?_ (hs.obj d k ε b' h hd ?_)
      · rw [tip_iff, tip_iff, grp_put, if_neg hroot]; exact id
      · rw [live_iff] at *; rw [grp_put, if_neg hroot] at hl'; exact hl'
  case sep =>
    intro d1 d2 k ε1 ε2 b1 b2 h1 h2 hb1 hb2
    have back : ∀ d b', (H.put c b o).blk d = some b' → ∃ b0, H.blk d = some b0 ∧ b0.root = b'.root := fun d b' hd => by
      rw [blk_put] at hd; split at hd
      · rename_i e; subst e; obtain rfl := Option.some.inj hd; exact ⟨b, hb, rfl⟩
      · exact ⟨b', hd, rfl⟩
    obtain ⟨b3, h3, r3⟩ := back _ _ hb1
    obtain ⟨b4, h4, r4⟩ := back _ _ hb2
    rw [← r3, ← r4]; exact hs.sep _ _ _ _ _ _ _ h1 h2 h3 h4
  case ends =>
    intro c1 d1 k δ1 ε1 b1 b2 C C' e e' f f' h1 h2 hb1 hb2 hcd hC hC'
    obtain ⟨b3, C3, f3, h3, h4, h5⟩ := hcell c1 C e f ⟨b1, hb1, hC⟩
    obtain ⟨b4, C4, f4, h6, h7, h8⟩ := hcell d1 C' e' f' ⟨b2, hb2, hC'⟩
    rw [← h5, ← h8]
    exact hs.ends _ _ _ _ _ _ _ _ _ _ _ _ _ h1 h2 h3 h6 hcd h4 h7
end
end Go.Proofs.YtofigleaealbjaaGreatDoor.Ev
