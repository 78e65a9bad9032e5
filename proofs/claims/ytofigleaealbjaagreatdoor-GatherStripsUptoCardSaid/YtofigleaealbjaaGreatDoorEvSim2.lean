/-
  The evaluator's heap and the world, step by step: a copy of a row.
-/
import Derived.Test.YtofigleaealbjaaGreatDoorEvSim
namespace Go.Proofs.YtofigleaealbjaaGreatDoor.Ev
open Go
section
variable {P : Program} {φ φ' φ'' : Phi} {H H' H'' : AH} {w w' w'' : World}

/-- A copy, where the world makes a new block too. -/
theorem step_copyG (hs : Sim P φ H w) {o o' : Obj} {root c : Nat} {b : Blk} {x : Nat × Nat} (hφ : φ c = some x) (ht : H.tip c b = true) (hr : b.root = root) (hh : w'.heap = w.heap.push o') (ho : SameOut w w') :
    Step P φ H w (upd φ H.next (w.heap.size, 0)) (H.copyOf o root) w' where
  h := HStep.copyOf hs.wf
  ext := fun c x h => by rw [upd_ne (by have := hs.lt h; omega)]; exact h
  old := fun c hc h => by rw [upd_ne (by omega)]; exact h
  os := ho.1
  tape := ho.2.1
  output := ho.2.2
  size := by rw [hh]; simp
  shape := fun r C e fr h => ⟨C, fr, by rw [hh, Array.getElem?_push, if_neg (by have := (Array.getElem?_eq_some_iff.1 h).1; omega)]; exact h, rfl⟩
  frame := fun r hr _ => by rw [hh, Array.getElem?_push, if_neg (by omega)]
  new := fun c r δ h h' hr => by
    unfold upd at h'; split at h'
    · obtain h' := Option.some.inj h'; simp only [Prod.mk.injEq] at h'; omega
    · rw [h] at h'; cases h'
  heads := fun d b' _ hn => by
    rw [grp_copyOf]
    split
    · rename_i e; rw [e, ← hr, tip_iff.1 ht, hφ] at hn; cases hn
    · rfl

theorem live_copy {b : Blk} {o : Obj} {root d : Nat} : (H.copyOf o root).live d b = true ↔ H.live d b = true := by
  rw [live_iff, live_iff, grp_copyOf]
  split
  · rename_i e; rw [e]
  · rfl

theorem tip_copy {b : Blk} {o : Obj} {root d : Nat} (hd : d < H.next) (h : (H.copyOf o root).tip d b = true) : H.tip d b = true := by
  rw [tip_iff] at *
  rw [grp_copyOf] at h
  split at h
  · simp only at h; omega
  · exact h

theorem sim_copyG (hs : Sim P φ H w) {c : Nat} {b : Blk} {o o' : Obj} {x : Nat × Nat} (hφ : φ c = some x) (ht : H.tip c b = true) (hb : H.blk c = some b) (he : b.exact = false) (hsh : shapeSame o o)
    (hh : w'.heap = w.heap.push o') (ho : SameOut w w')
    (hobj : ObjR P (upd φ H.next (w.heap.size, 0)) (H.copyOf o b.root) w' H.next ⟨o, b.root, false, H.clock⟩ w.heap.size 0) :
    Sim P (upd φ H.next (w.heap.size, 0)) (H.copyOf o b.root) w' := by
  have hst := step_copyG (o := o) (root := b.root) hs hφ ht rfl hh ho
  have hget : ∀ k, k < w.heap.size → w'.heap[k]? = w.heap[k]? := fun k hk => by rw [hh, Array.getElem?_push, if_neg (by omega)]
  have hcase : ∀ c r δ, upd φ H.next (w.heap.size, 0) c = some (r, δ) → (c = H.next ∧ r = w.heap.size ∧ δ = 0) ∨ (c ≠ H.next ∧ φ c = some (r, δ) ∧ r < w.heap.size) := fun c r δ h => by
    unfold upd at h; split at h
    · rename_i e; obtain h := Option.some.inj h; simp only [Prod.mk.injEq] at h; exact .inl ⟨e, h.1.symm, h.2.symm⟩
    · rename_i e; exact .inr ⟨e, h, hs.real c r δ h⟩
  have hblk : ∀ c, c ≠ H.next → (H.copyOf o b.root).blk c = H.blk c := fun c hc => by rw [blk_copyOf, if_neg hc]
  constructor
  case wf => exact hs.wf.copyOf hb he hsh
  case blk =>
    intro c r δ h
    rcases hcase c r δ h with ⟨rfl, _, _⟩ | ⟨hc, h, _⟩
    · exact ⟨_, blk_copyOf_new⟩
    · rw [hblk c hc]; exact hs.blk c r δ h
  case real =>
    intro c r δ h
    rw [hh]; simp
    rcases hcase c r δ h with ⟨_, rfl, _⟩ | ⟨_, _, h⟩ <;> omega
  case fix =>
    refine ⟨Tabs_local (fun g hg => hget g (hs.fix.2 g hg).1) hs.fix.1, fun g hg => ⟨?_, fun d δ b' h hb' => ?_⟩⟩
    · rw [hh]; simp; have := (hs.fix.2 g hg).1; omega
    · rcases hcase d g δ h with ⟨_, h2, _⟩ | ⟨hc', h2, _⟩
      · have := (hs.fix.2 g hg).1; omega
      · rw [hblk d hc'] at hb'
        have hro := (hs.fix.2 g hg).2 d δ b' h2 hb'
        refine ⟨hro.1, ?_⟩
        have hne : b'.root ≠ b.root := fun e => by have := hro.2; rw [e, tip_iff.1 ht, hφ] at this; cases this
        rw [grp_copyOf, if_neg hne, upd_ne (by have := (hs.wf.head d b' hb').2; omega)]
        exact hro.2
  case obj =>
    intro c r δ b h hb hl
    rcases hcase c r δ h with ⟨rfl, rfl, rfl⟩ | ⟨hc, h, hr⟩
    · rw [blk_copyOf_new] at hb; obtain rfl := Option.some.inj hb; exact hobj
    · rw [hblk c hc] at hb
      exact ObjR.mono hst (hget r hr) (tip_copy (hs.lt h)) (hs.obj c r δ b h hb (live_copy.1 hl))
  case sep =>
    intro c d r δ ε b b' h k hb hb'
    rcases hcase c r δ h with ⟨rfl, rfl, rfl⟩ | ⟨hc, h, hr⟩ <;> rcases hcase d _ ε k with ⟨rfl, h2, rfl⟩ | ⟨hd, k, hr'⟩
    · rw [hb] at hb'; obtain rfl := Option.some.inj hb'; rfl
    · omega
    · omega
    · rw [hblk c hc] at hb; rw [hblk d hd] at hb'; exact hs.sep c d r δ ε b b' h k hb hb'
  case ends =>
    intro c d r δ ε b b' C C' e e' f f' h k hb hb' hcd hC hC'
    rcases hcase c r δ h with ⟨rfl, rfl, rfl⟩ | ⟨hc, h, hr⟩ <;> rcases hcase d _ ε k with ⟨rfl, h2, rfl⟩ | ⟨hd, k, hr'⟩
    · rw [hb] at hb'; obtain rfl := Option.some.inj hb'; rw [hC] at hC'; cases hC'; exact Nat.le_refl _
    · omega
    · omega
    · rw [hblk c hc] at hb; rw [hblk d hd] at hb'; exact hs.ends c d r δ ε b b' C C' e e' f f' h k hb hb' hcd hC hC'

/-- A copy, where the world grows the row in place. -/
theorem step_copyI (hs : Sim P φ H w) {c r δ off : Nat} {b : Blk} {o : Obj} {C' C2 : Array Value} {e : TypeId} {fr' : Nat × Nat} (hφ : φ c = some (r, δ)) (hb : H.blk c = some b) (ht : H.tip c b = true) (he : b.exact = false)
    (hC' : w.heap[r]? = some (.cells C' e fr')) (hC2 : C2.size = C'.size) (hsz : w'.heap.size = w.heap.size)
    (hh : ∀ k, w'.heap[k]? = if k = r then some (.cells C2 e fr') else w.heap[k]?) (ho : SameOut w w') :
    Step P φ H w (upd φ H.next (r, δ + off)) (H.copyOf o b.root) w' where
  h := HStep.copyOf hs.wf
  ext := fun c x h => by rw [upd_ne (by have := hs.lt h; omega)]; exact h
  old := fun c hc h => by rw [upd_ne (by omega)]; exact h
  os := ho.1
  tape := ho.2.1
  output := ho.2.2
  size := by rw [hsz]; exact Nat.le_refl _
  shape := fun k C1 e1 f1 h => by
    rw [hh]
    split
    · rename_i ek; subst ek; rw [hC'] at h; cases h; exact ⟨C2, fr', rfl, hC2⟩
    · exact ⟨C1, f1, h, rfl⟩
  frame := fun k _ hc => by
    rw [hh]
    split
    · rename_i ek; subst ek
      rcases hc c δ b hφ hb with h | ⟨h, _⟩
      · have := h.2
        rw [tip_iff.1 ht, hφ] at this; cases this
      · rw [he] at h; cases h
    · rfl
  new := fun d k ε h h' _ => by
    unfold upd at h'; split at h'
    · obtain h' := Option.some.inj h'; simp only [Prod.mk.injEq] at h'
      obtain ⟨rfl, _⟩ := h'
      exact ⟨c, δ, b, hφ, hb, he, by rw [tip_iff.1 ht, hφ]; exact fun h => nomatch h⟩
    · rw [h] at h'; cases h'
  heads := fun d b' _ hn => by
    rw [grp_copyOf]
    split
    · rename_i e; rw [e, tip_iff.1 ht, hφ] at hn; cases hn
    · rfl

theorem sim_copyI (hs : Sim P φ H w) {c r δ off : Nat} {b : Blk} {C C' C2 D : Array Value} {e : TypeId} {fr fr' fD : Nat × Nat} (hφ : φ c = some (r, δ)) (hb : H.blk c = some b) (ht : H.tip c b = true) (he : b.exact = false)
    (hC : b.obj = .cells C e fr) (hC' : w.heap[r]? = some (.cells C' e fr')) (hC2 : C2.size = C'.size) (hsz : w'.heap.size = w.heap.size)
    (hh : ∀ k, w'.heap[k]? = if k = r then some (.cells C2 e fr') else w.heap[k]?) (ho : SameOut w w')
    (hkeep : ∀ i, i < δ + C.size → C2[i]? = C'[i]?) (hend : δ + C.size ≤ (δ + off) + D.size)
    (hobj : ObjR P (upd φ H.next (r, δ + off)) (H.copyOf (.cells D e fD) b.root) w' H.next ⟨.cells D e fD, b.root, false, H.clock⟩ r (δ + off)) :
    Sim P (upd φ H.next (r, δ + off)) (H.copyOf (.cells D e fD) b.root) w' := by
  have hst := step_copyI (off := off) (o := .cells D e fD) hs hφ hb ht he hC' hC2 hsz hh ho
  have hcase : ∀ d k ε, upd φ H.next (r, δ + off) d = some (k, ε) → (d = H.next ∧ k = r ∧ ε = δ + off) ∨ (d ≠ H.next ∧ φ d = some (k, ε)) := fun d k ε h => by
    unfold upd at h; split at h
    · rename_i e; obtain h := Option.some.inj h; simp only [Prod.mk.injEq] at h; exact .inl ⟨e, h.1.symm, h.2.symm⟩
    · rename_i e; exact .inr ⟨e, h⟩
  have hblk : ∀ c, c ≠ H.next → (H.copyOf (.cells D e fD) b.root).blk c = H.blk c := fun c hc => by rw [blk_copyOf, if_neg hc]
  have htip := tip_iff.1 ht
  -- a row in the same real block ends no later than the tip
  have hends : ∀ d ε b' C1 e1 f1, φ d = some (r, ε) → H.blk d = some b' → b'.obj = .cells C1 e1 f1 → ε + C1.size ≤ δ + C.size := fun d ε b' C1 e1 f1 h hd h1 =>
    hs.ends d c r ε δ b' b C1 C e1 e f1 fr h hφ hd hb (by
      have h2 := (hs.wf.head d b' hd).1
      rw [hs.sep d c r ε δ b' b h hφ hd hb, htip] at h2; exact h2) h1 hC
  constructor
  case wf => exact hs.wf.copyOf hb he ⟨rfl, rfl⟩
  case blk =>
    intro d k ε h
    rcases hcase d k ε h with ⟨rfl, _, _⟩ | ⟨hd, h⟩
    · exact ⟨_, blk_copyOf_new⟩
    · rw [hblk d hd]; exact hs.blk d k ε h
  case real =>
    intro d k ε h
    rw [hsz]
    rcases hcase d k ε h with ⟨_, rfl, _⟩ | ⟨_, h⟩
    · exact hs.real c _ δ hφ
    · exact hs.real d k ε h
  case fix =>
    have hne : ∀ g, g ∈ fixedBlocks → g ≠ r := fun g hg e => by
      have := ((hs.fix.2 g hg).2 c δ b (e ▸ hφ) hb).2
      rw [htip, hφ] at this; cases this
    refine ⟨Tabs_local (fun g hg => by rw [hh, if_neg (hne g hg)]) hs.fix.1, fun g hg => ⟨by rw [hsz]; exact (hs.fix.2 g hg).1, fun d ε b' h hb' => ?_⟩⟩
    rcases hcase d g ε h with ⟨_, h2, _⟩ | ⟨hd, h2⟩
    · exact absurd h2 (hne g hg)
    · rw [hblk d hd] at hb'
      have hro := (hs.fix.2 g hg).2 d ε b' h2 hb'
      refine ⟨hro.1, ?_⟩
      have hne2 : b'.root ≠ b.root := fun e => by have := hro.2; rw [e, htip, hφ] at this; cases this
      rw [grp_copyOf, if_neg hne2, upd_ne (by have := (hs.wf.head d b' hb').2; omega)]
      exact hro.2
  case obj =>
    intro d k ε b' h hd hl
    rcases hcase d k ε h with ⟨rfl, rfl, rfl⟩ | ⟨hne, hq⟩
    · rw [blk_copyOf_new] at hd; obtain rfl := Option.some.inj hd; exact hobj
    · rw [hblk d hne] at hd
      have hold := hs.obj d k ε b' hq hd (live_copy.1 hl)
      by_cases ek : k = r
      · subst ek
        have hroot : b'.root = b.root := hs.sep d c k ε δ b' b hq hφ hd hb
        unfold ObjR at hold ⊢
        split
        · rename_i C1 e1 f1 h1
          simp only [h1] at hold
          obtain ⟨C3, f3, g1, g2, g3, g4, g5, g6⟩ := hold
          rw [hC'] at g1; cases g1
          have hle := hends d ε b' C1 e f1 hq hd h1
          refine ⟨C2, fr', by rw [hh, if_pos rfl], by omega, fun i x y hx hy => ?_, g4, fun htp => ?_, fun hx => ?_⟩
          · have hi : i < C1.size := (Array.getElem?_eq_some_iff.1 hx).1
            rw [hkeep _ (by omega)] at hy
            exact (g3 i x y hx hy).mono hst
          · exfalso
            rw [tip_iff, grp_copyOf, if_pos hroot] at htp
            simp only at htp
            exact hne htp.symm
          · obtain ⟨k1, k2, k3⟩ := g6 hx
            exact ⟨k1, by rw [hC2, k2], k3⟩
        · rename_i hno
          split at hold
          · rename_i C1 e1 f1 h1; exact absurd h1 (hno C1 e1 f1)
          · rename_i ob hob
            obtain ⟨_, hx, hr⟩ := hold
            have hx' := hs.wf.exact d b' hd hx
            have := hx'.2.2 c b hb (by rw [← hroot, hx'.1])
            subst this
            rw [hb] at hd; obtain rfl := Option.some.inj hd
            rw [he] at hx; cases hx
      · exact ObjR.mono hst (by rw [hh, if_neg ek]) (tip_copy (hs.lt hq)) hold
  case sep =>
    intro c1 d1 k ε1 ε2 b1 b2 h1 h2 hb1 hb2
    rcases hcase c1 k ε1 h1 with ⟨rfl, rfl, rfl⟩ | ⟨hc, q1⟩ <;> rcases hcase d1 _ ε2 h2 with ⟨rfl, e2, rfl⟩ | ⟨hd, h2⟩
    · rw [hb1] at hb2; obtain rfl := Option.some.inj hb2; rfl
    · rw [blk_copyOf_new] at hb1; obtain rfl := Option.some.inj hb1
      rw [hblk d1 hd] at hb2
      exact hs.sep c d1 _ δ ε2 b b2 hφ h2 hb hb2
    · subst e2
      rw [blk_copyOf_new] at hb2; obtain rfl := Option.some.inj hb2
      rw [hblk c1 hc] at hb1
      exact hs.sep c1 c _ ε1 δ b1 b q1 hφ hb1 hb
    · rw [hblk c1 hc] at hb1; rw [hblk d1 hd] at hb2; exact hs.sep _ _ _ _ _ _ _ q1 h2 hb1 hb2
  case ends =>
    intro c1 d1 k ε1 ε2 b1 b2 C1 C1' e1 e2 f1 f2 h1 h2 hb1 hb2 hcd hC1 hC1'
    rcases hcase c1 k ε1 h1 with ⟨rfl, rfl, rfl⟩ | ⟨hc, q1⟩ <;> rcases hcase d1 _ ε2 h2 with ⟨rfl, ek, rfl⟩ | ⟨hd, h2⟩
    · rw [hb1] at hb2; obtain rfl := Option.some.inj hb2; rw [hC1] at hC1'; cases hC1'; exact Nat.le_refl _
    · have := hs.lt h2; omega
    · subst ek
      rw [blk_copyOf_new] at hb2; obtain rfl := Option.some.inj hb2
      cases hC1'
      rw [hblk c1 hc] at hb1
      have := hends c1 ε1 b1 C1 e1 f1 q1 hb1 hC1
      omega
    · rw [hblk c1 hc] at hb1; rw [hblk d1 hd] at hb2; exact hs.ends _ _ _ _ _ _ _ _ _ _ _ _ _ q1 h2 hb1 hb2 hcd hC1 hC1'
end
end Go.Proofs.YtofigleaealbjaaGreatDoor.Ev
