/-
  The machine's heap: blocks in a tree; what it says, the evaluator's heap says.
-/
import Derived.Test.YtaadahhjdkkkaaaGreatDoorEvVmA
import Derived.Test.YtaadahhjdkkkaaaGreatDoorEvGrown
namespace Go.Proofs.YtaadahhjdkkkaaaGreatDoor.Ev
set_option linter.unusedVariables false
set_option linter.unusedSimpArgs false
open Go

structure FEnt where
  key : FV
  val : FV
  born : Nat
def FEnt.ent (e : FEnt) : MapEntry := { key := e.key.val, val := e.val.val, born := e.born }
inductive FObj where
  | cl (n : Nat) (t : Q FV) (e lo hi : Nat)
  | yy (n x e lo hi : Nat)
  | it (n x pos : Nat)
  | mp (es : List FEnt) (ck : Nat)
def byteC (b : UInt8) : Value := .int .u8 (Int.ofNat b.toNat)
def FObjR : FObj → Obj → Prop
  | .cl n t e lo hi, o => ∃ C : Array Value, o = .cells C e (lo, hi) ∧ C.size = n ∧ ∀ i f, t.get i = some f → C[i]? = some f.val
  | .yy n x e lo hi, o => o = .cells ((bytesL n x).map byteC).toArray e (lo, hi)
  | .it n x pos, o => o = .stringIter (bytesA n x) pos
  | .mp es ck, o => o = .map (es.map FEnt.ent).toArray ck
theorem FObjR.sh {f : FObj} {o : Obj} (h : FObjR f o) : shapeSame o o := by
  cases f with
  | cl n t e lo hi => obtain ⟨C, rfl, _⟩ := h; exact ⟨rfl, rfl⟩
  | yy => cases h; exact ⟨rfl, rfl⟩
  | it => cases h; trivial
  | mp => cases h; trivial

inductive FBlk where
  | xx (o : FObj) (ver : Nat)
  | gg (o : FObj) (root ver hd fl : Nat)
def BlkR (H : AH) (c : Nat) : FBlk → Blk → Prop
  | .xx o ver, b => b.exact = true ∧ b.ver = ver ∧ FObjR o b.obj
  | .gg o root ver hd fl, b => b.exact = false ∧ b.root = root ∧ b.ver = ver ∧ FObjR o b.obj ∧ H.grp c = (hd, fl)
structure FH where
  t : Q FBlk
  next : Nat
  clock : Nat
structure HR (F : FH) (H : AH) : Prop where
  wf : WfH H
  next : H.next = F.next
  clock : H.clock = F.clock
  blk : ∀ c fb, F.t.get c = some fb → ∃ b, H.blk c = some b ∧ BlkR H c fb b

section
variable {F : FH} {H : AH}

theorem HR.xx (h : HR F H) {c : Nat} {o : FObj} {ver : Nat} (hg : F.t.get c = some (.xx o ver)) : ∃ b, H.blk c = some b ∧ FObjR o b.obj ∧ b.ver = ver ∧ b.exact = true ∧ b.root = c ∧ H.live c b = true ∧ H.tip c b = true := by
  obtain ⟨b, hb, h1, h2, h3⟩ := h.blk c _ hg
  obtain ⟨e1, e2, _⟩ := h.wf.exact c b hb h1
  refine ⟨b, hb, h3, h2, h1, e1, ?_, ?_⟩
  · rw [live_iff, e1]
    have := h.wf.floor c b hb
    rw [e1] at this
    omega
  · rw [tip_iff, e1]; exact e2

noncomputable def objRt (k : FObj → Bool) (c : Nat) (o : FObj) (rb : FBlk) : Bool := FBlk.rec (motive := fun _ => Bool) (fun _ _ => false) (fun _ _ _ _ fl => ifK (k o) (Nat.ble fl c)) rb
noncomputable def objG (k : FObj → Bool) (c : Nat) (t : Q FBlk) (o : FObj) (root ver hd fl : Nat) : Bool := iteK (Q.getK (objRt k c o) t root) (ifK (k o) (Nat.ble fl c)) (Nat.beq root c)
noncomputable def objB (k : FObj → Bool) (c : Nat) (t : Q FBlk) (fb : FBlk) : Bool := FBlk.rec (motive := fun _ => Bool) (fun o _ => k o) (objG k c t) fb
noncomputable def objF (k : FObj → Bool) (c : Nat) (t : Q FBlk) (_ _ : Nat) : Bool := Q.getK (objB k c t) t c
/-- What lies in a block that may be looked at. -/
noncomputable def objK (k : FObj → Bool) (F : FH) (c : Nat) : Bool := FH.rec (motive := fun _ => Bool) (objF k c) F
theorem objK_ok {k : FObj → Bool} {c : Nat} (h : HR F H) (hk : objK k F c = true) : ∃ o b, H.blk c = some b ∧ H.live c b = true ∧ FObjR o b.obj ∧ k o = true := by
  obtain ⟨t, next, clock⟩ := F
  have hk : Q.getK (objB k c t) t c = true := hk
  obtain ⟨fb, h1, h2⟩ := Q.getK_ok hk
  cases fb with
  | xx o ver =>
    obtain ⟨b, hb, ho, _, _, _, hl, _⟩ := h.xx h1
    exact ⟨o, b, hb, hl, ho, h2⟩
  | gg o root ver hd fl =>
    obtain ⟨b, hb, e1, e2, e3, e4, e5⟩ := h.blk c _ h1
    have h2 : objG k c t o root ver hd fl = true := h2
    rcases iteK_ok h2 with ⟨hr, h3⟩ | ⟨hr, h3⟩
    · obtain ⟨rb, g1, g2⟩ := Q.getK_ok h3
      cases rb with
      | xx => cases g2
      | gg ro rr rv rh rf =>
        have g2 : ifK (k o) (Nat.ble rf c) = true := g2
        obtain ⟨g3, g4⟩ := ifK_ok g2
        obtain ⟨b', hb', f1, f2, f3, f4, f5⟩ := h.blk root _ g1
        exact ⟨o, b, hb, by rw [live_iff, e2, f5]; exact Nat.le_of_ble_eq_true g3, e4, g4⟩
    · have hr := Nat.eq_of_beq_eq_true hr
      obtain ⟨g3, g4⟩ := ifK_ok h3
      exact ⟨o, b, hb, by rw [live_iff, e2, hr, e5]; exact Nat.le_of_ble_eq_true g3, e4, g4⟩

/-! ### Writing -/
noncomputable def wrN (k : FH → Bool) (t : Q FBlk) (next clock : Nat) : Bool := k ⟨t, next, clock⟩
noncomputable def wrT (k : FH → Bool) (next clock : Nat) (t : Q FBlk) : Bool := natK (wrN k t next) (Nat.succ clock)
noncomputable def wrX (k : FH → Bool) (c : Nat) (t : Q FBlk) (next clock : Nat) (o : FObj) : Bool := Q.setK (.xx o clock) t (wrT k next clock) c
noncomputable def wrG (k : FH → Bool) (c : Nat) (t : Q FBlk) (next clock : Nat) (o : FObj) : Bool := Q.setK (.gg o c clock c c) t (wrT k next clock) c
noncomputable def wrR2 (k : FH → Bool) (c root next clock : Nat) (rb : FBlk) (t : Q FBlk) : Bool := Q.setK rb t (wrT k next clock) root
noncomputable def wrR (k : FH → Bool) (c root hd fl : Nat) (rb : FBlk) (t : Q FBlk) (next clock : Nat) (o : FObj) : Bool := Q.setK (.gg o root clock hd fl) t (wrR2 k c root next clock rb) c
noncomputable def wrR1 (u : (FObj → Bool) → FObj → Bool) (k : FH → Bool) (c root hd fl : Nat) (t : Q FBlk) (next clock : Nat) (o : FObj) (rb : FBlk) : Bool :=
  FBlk.rec (motive := fun _ => Bool) (fun _ _ => false) (fun ro rr rv rh rf => ifK (ifK (u (wrR k c root hd fl (.gg ro rr rv rh c) t next clock) o) (Nat.beq rh c)) (Nat.ble rf c)) rb
noncomputable def wrB2 (u : (FObj → Bool) → FObj → Bool) (k : FH → Bool) (c : Nat) (t : Q FBlk) (next clock : Nat) (o : FObj) (root ver hd fl : Nat) : Bool :=
  iteK (Q.getK (wrR1 u k c root hd fl t next clock o) t root) (ifK (ifK (u (wrG k c t next clock) o) (Nat.beq hd c)) (Nat.ble fl c)) (Nat.beq root c)
noncomputable def wrB (u : (FObj → Bool) → FObj → Bool) (k : FH → Bool) (c : Nat) (t : Q FBlk) (next clock : Nat) (fb : FBlk) : Bool :=
  FBlk.rec (motive := fun _ => Bool) (fun o _ => u (wrX k c t next clock) o) (wrB2 u k c t next clock) fb
noncomputable def wrF (u : (FObj → Bool) → FObj → Bool) (k : FH → Bool) (c : Nat) (t : Q FBlk) (next clock : Nat) : Bool := Q.getK (wrB u k c t next clock) t c
/-- A block that may be written, written anew. -/
noncomputable def wrK (u : (FObj → Bool) → FObj → Bool) (k : FH → Bool) (F : FH) (c : Nat) : Bool := FH.rec (motive := fun _ => Bool) (wrF u k c) F

theorem HR.putR (h : HR F H) {c : Nat} {b : Blk} {O : Obj} {t : Q FBlk} (hb : H.blk c = some b) (hl : H.live c b = true) (ht : H.tip c b = true) (hs : shapeSame b.obj O) (hs2 : shapeSame O O)
    (hg : ∀ d fb, t.get d = some fb → ∃ b', (H.put c b O).blk d = some b' ∧ BlkR (H.put c b O) d fb b') : HR ⟨t, F.next, F.clock + 1⟩ (H.put c b O) :=
  ⟨h.wf.put hb hl ht hs2, h.next, by rw [clock_put, h.clock], hg⟩

theorem wrK_ok {u : (FObj → Bool) → FObj → Bool} {k : FH → Bool} {c : Nat} (h : HR F H) (hk : wrK u k F c = true) :
    ∃ b o, H.blk c = some b ∧ H.live c b = true ∧ H.tip c b = true ∧ FObjR o b.obj ∧ ∃ co : FObj → Bool, u co o = true ∧ ∀ o', co o' = true → ∀ O, FObjR o' O → shapeSame b.obj O → ∃ F', HR F' (H.put c b O) ∧ k F' = true := by
  obtain ⟨t, next, clock⟩ := F
  have hk : Q.getK (wrB u k c t next clock) t c = true := hk
  have hcl : H.clock = clock := h.clock
  obtain ⟨fb, h1, h2⟩ := Q.getK_ok hk
  cases fb with
  | xx o ver =>
    obtain ⟨b, hb, ho, _, hex, hrt, hl, ht⟩ := h.xx h1
    refine ⟨b, o, hb, hl, ht, ho, _, h2, fun o' ho' O hO hsh => ?_⟩
    obtain ⟨t', k1, k2⟩ := Q.setK_ok ho'
    unfold wrT at k1
    rw [natK_eq] at k1
    refine ⟨_, h.putR hb hl ht hsh hO.sh fun d fb hd => ?_, k1⟩
    rw [k2] at hd
    split at hd
    · rename_i e; subst e; cases hd
      exact ⟨{ b with obj := O, ver := H.clock }, by rw [blk_put, if_pos rfl], hex, hcl, hO⟩
    · rename_i e
      obtain ⟨b', hb', hr'⟩ := h.blk d fb hd
      refine ⟨b', by rw [blk_put, if_neg e]; exact hb', ?_⟩
      cases fb with
      | xx => exact hr'
      | gg => obtain ⟨a1, a2, a3, a4, a5⟩ := hr'; exact ⟨a1, a2, a3, a4, by rw [grp_put, if_neg (by rw [hrt]; exact e)]; exact a5⟩
  | gg o root ver hd fl =>
    obtain ⟨b, hb, e1, e2, e3, e4, e5⟩ := h.blk c _ h1
    have h2 : wrB2 u k c t next clock o root ver hd fl = true := h2
    rcases iteK_ok h2 with ⟨hr, h3⟩ | ⟨hr, h3⟩
    · have hr : root ≠ c := fun e => by rw [e, Nat.beq_refl] at hr; cases hr
      obtain ⟨rb, g1, g2⟩ := Q.getK_ok h3
      cases rb with
      | xx => cases g2
      | gg ro rr rv rh rf =>
        have g2 : ifK (ifK (u (wrR k c root hd fl (.gg ro rr rv rh c) t next clock) o) (Nat.beq rh c)) (Nat.ble rf c) = true := g2
        obtain ⟨g3, g4⟩ := ifK_ok g2
        obtain ⟨g5, g6⟩ := ifK_ok g4
        have g5 := Nat.eq_of_beq_eq_true g5
        obtain ⟨b', hb', f1, f2, f3, f4, f5⟩ := h.blk root _ g1
        have hl : H.live c b = true := by rw [live_iff, e2, f5]; exact Nat.le_of_ble_eq_true g3
        have ht : H.tip c b = true := by rw [tip_iff, e2, f5]; exact g5
        refine ⟨b, o, hb, hl, ht, e4, _, g6, fun o' ho' O hO hsh => ?_⟩
        obtain ⟨t1, k1, k2⟩ := Q.setK_ok ho'
        obtain ⟨t', k3, k4⟩ := Q.setK_ok k1
        unfold wrT at k3
        rw [natK_eq] at k3
        refine ⟨_, h.putR hb hl ht hsh hO.sh fun d fb hd' => ?_, k3⟩
        rw [k4] at hd'
        split at hd'
        · rename_i e; subst e; cases hd'
          exact ⟨b', by rw [blk_put, if_neg hr]; exact hb', f1, f2, f3, f4, by rw [grp_put, if_pos e2.symm, e2, f5]⟩
        · rename_i er
          rw [k2] at hd'
          split at hd'
          · rename_i e; subst e; cases hd'
            exact ⟨{ b with obj := O, ver := H.clock }, by rw [blk_put, if_pos rfl], e1, e2, hcl, hO, by rw [grp_put, if_neg (by rw [e2]; exact er)]; exact e5⟩
          · rename_i e
            obtain ⟨b2, hb2, hr2⟩ := h.blk d fb hd'
            refine ⟨b2, by rw [blk_put, if_neg e]; exact hb2, ?_⟩
            cases fb with
            | xx => exact hr2
            | gg => obtain ⟨a1, a2, a3, a4, a5⟩ := hr2; exact ⟨a1, a2, a3, a4, by rw [grp_put, if_neg (by rw [e2]; exact er)]; exact a5⟩
    · have hr := Nat.eq_of_beq_eq_true hr
      subst hr
      obtain ⟨g3, g4⟩ := ifK_ok h3
      obtain ⟨g5, g6⟩ := ifK_ok g4
      have g5 := Nat.eq_of_beq_eq_true g5
      subst g5
      have hl : H.live hd b = true := by rw [live_iff, e2, e5]; exact Nat.le_of_ble_eq_true g3
      have ht : H.tip hd b = true := by rw [tip_iff, e2, e5]
      refine ⟨b, o, hb, hl, ht, e4, _, g6, fun o' ho' O hO hsh => ?_⟩
      obtain ⟨t', k1, k2⟩ := Q.setK_ok ho'
      unfold wrT at k1
      rw [natK_eq] at k1
      refine ⟨_, h.putR hb hl ht hsh hO.sh fun d fb hd' => ?_, k1⟩
      rw [k2] at hd'
      split at hd'
      · rename_i e; subst e; cases hd'
        exact ⟨{ b with obj := O, ver := H.clock }, by rw [blk_put, if_pos rfl], e1, e2, hcl, hO, by rw [grp_put, if_pos e2.symm, e2, e5]⟩
      · rename_i e
        obtain ⟨b2, hb2, hr2⟩ := h.blk d fb hd'
        refine ⟨b2, by rw [blk_put, if_neg e]; exact hb2, ?_⟩
        cases fb with
        | xx => exact hr2
        | gg => obtain ⟨a1, a2, a3, a4, a5⟩ := hr2; exact ⟨a1, a2, a3, a4, by rw [grp_put, if_neg (by rw [e2]; exact e)]; exact a5⟩

/-! ### New blocks -/
noncomputable def nwN (k : Nat → FH → Bool) (t : Q FBlk) (next next' clock' : Nat) : Bool := k next ⟨t, next', clock'⟩
noncomputable def nwM (k : Nat → FH → Bool) (t : Q FBlk) (next clock next' : Nat) : Bool := natK (nwN k t next next') (Nat.succ clock)
noncomputable def nwT (k : Nat → FH → Bool) (next clock : Nat) (t : Q FBlk) : Bool := natK (nwM k t next clock) (Nat.succ next)
noncomputable def nwX (k : Nat → FH → Bool) (o : FObj) (t : Q FBlk) (next clock : Nat) : Bool := Q.setK (.xx o clock) t (nwT k next clock) next
noncomputable def nwG (k : Nat → FH → Bool) (o : FObj) (t : Q FBlk) (next clock : Nat) : Bool := Q.setK (.gg o next clock next next) t (nwT k next clock) next
/-- A new block, just as long as it is. -/
noncomputable def newX (k : Nat → FH → Bool) (o : FObj) (F : FH) : Bool := FH.rec (motive := fun _ => Bool) (nwX k o) F
/-- A new block that may have room behind. -/
noncomputable def newG (k : Nat → FH → Bool) (o : FObj) (F : FH) : Bool := FH.rec (motive := fun _ => Bool) (nwG k o) F

theorem newX_ok {k : Nat → FH → Bool} {o : FObj} {O : Obj} (h : HR F H) (hO : FObjR o O) (hk : newX k o F = true) : ∃ F', HR F' (H.alloc O true) ∧ k H.next F' = true := by
  obtain ⟨t, next, clock⟩ := F
  have hk : Q.setK (.xx o clock) t (nwT k next clock) next = true := hk
  have hcl : H.clock = clock := h.clock
  have hn : H.next = next := h.next
  obtain ⟨t', k1, k2⟩ := Q.setK_ok hk
  unfold nwT at k1
  rw [natK_eq] at k1
  unfold nwM at k1
  rw [natK_eq] at k1
  refine ⟨⟨t', Nat.succ next, Nat.succ clock⟩, ⟨h.wf.alloc hO.sh, by rw [next_alloc, hn], show H.clock + 1 = _ by rw [hcl], fun d fb hd => ?_⟩, by rw [hn]; exact k1⟩
  rw [k2] at hd
  split at hd
  · rename_i e; subst e; cases hd
    exact ⟨⟨O, H.next, true, H.clock⟩, by rw [blk_alloc, if_pos hn.symm], rfl, hcl, hO⟩
  · rename_i e
    obtain ⟨b', hb', hr'⟩ := h.blk d fb hd
    refine ⟨b', by rw [blk_alloc, if_neg (by rw [hn]; exact e)]; exact hb', ?_⟩
    cases fb with
    | xx => exact hr'
    | gg => exact hr'
theorem newG_ok {k : Nat → FH → Bool} {o : FObj} {O : Obj} (h : HR F H) (hO : FObjR o O) (hk : newG k o F = true) : ∃ F', HR F' (H.alloc O false) ∧ k H.next F' = true := by
  obtain ⟨t, next, clock⟩ := F
  have hk : Q.setK (.gg o next clock next next) t (nwT k next clock) next = true := hk
  have hcl : H.clock = clock := h.clock
  have hn : H.next = next := h.next
  obtain ⟨t', k1, k2⟩ := Q.setK_ok hk
  unfold nwT at k1
  rw [natK_eq] at k1
  unfold nwM at k1
  rw [natK_eq] at k1
  refine ⟨⟨t', Nat.succ next, Nat.succ clock⟩, ⟨h.wf.alloc hO.sh, by rw [next_alloc, hn], show H.clock + 1 = _ by rw [hcl], fun d fb hd => ?_⟩, by rw [hn]; exact k1⟩
  rw [k2] at hd
  split at hd
  · rename_i e; subst e; cases hd
    exact ⟨⟨O, H.next, false, H.clock⟩, by rw [blk_alloc, if_pos hn.symm], rfl, hn, hcl, hO, by rw [grp_alloc]; exact h.wf.fresh _ (by rw [hn]; exact Nat.le_refl _)⟩
  · rename_i e
    obtain ⟨b', hb', hr'⟩ := h.blk d fb hd
    refine ⟨b', by rw [blk_alloc, if_neg (by rw [hn]; exact e)]; exact hb', ?_⟩
    cases fb with
    | xx => exact hr'
    | gg => exact hr'

/-! ### A copy of a row that may be the row itself -/
noncomputable def cpT (k : Nat → FH → Bool) (root next clock : Nat) (rb : FBlk) (t : Q FBlk) : Bool := Q.setK rb t (nwT k next clock) root
noncomputable def cpR (k : Nat → FH → Bool) (o : FObj) (root : Nat) (t : Q FBlk) (next clock : Nat) (rb : FBlk) : Bool :=
  FBlk.rec (motive := fun _ => Bool) (fun _ _ => false) (fun ro rr rv rh rf => Q.setK (.gg o root clock next next) t (cpT k root next clock (.gg ro rr rv next rf)) next) rb
noncomputable def cpF (k : Nat → FH → Bool) (o : FObj) (root : Nat) (t : Q FBlk) (next clock : Nat) : Bool := Q.getK (cpR k o root t next clock) t root
noncomputable def copyG (k : Nat → FH → Bool) (o : FObj) (root : Nat) (F : FH) : Bool := FH.rec (motive := fun _ => Bool) (cpF k o root) F
theorem copyG_ok {k : Nat → FH → Bool} {o : FObj} {O : Obj} {c root : Nat} {b : Blk} (h : HR F H) (hb : H.blk c = some b) (he : b.exact = false) (hr : b.root = root) (hO : FObjR o O) (hk : copyG k o root F = true) : ∃ F', HR F' (H.copyOf O root) ∧ k H.next F' = true := by
  obtain ⟨t, next, clock⟩ := F
  have hk : Q.getK (cpR k o root t next clock) t root = true := hk
  have hcl : H.clock = clock := h.clock
  have hn : H.next = next := h.next
  obtain ⟨rb, g1, g2⟩ := Q.getK_ok hk
  cases rb with
  | xx => cases g2
  | gg ro rr rv rh rf =>
    have g2 : Q.setK (.gg o root clock next next) t (cpT k root next clock (.gg ro rr rv next rf)) next = true := g2
    obtain ⟨t1, k1, k2⟩ := Q.setK_ok g2
    obtain ⟨t', k3, k4⟩ := Q.setK_ok k1
    unfold nwT at k3
    rw [natK_eq] at k3
    unfold nwM at k3
    rw [natK_eq] at k3
    obtain ⟨b', hb', f1, f2, f3, f4, f5⟩ := h.blk root _ g1
    have hrn : root < next := by rw [← hn]; exact (h.wf.lt root b' hb').1
    refine ⟨⟨t', Nat.succ next, Nat.succ clock⟩, ⟨by rw [← hr]; exact h.wf.copyOf hb he hO.sh, by rw [next_copyOf, hn], show H.clock + 1 = _ by rw [hcl], fun d fb hd => ?_⟩, by rw [hn]; exact k3⟩
    rw [k4] at hd
    split at hd
    · rename_i e; subst e; cases hd
      refine ⟨b', by rw [blk_copyOf, if_neg (by omega)]; exact hb', f1, f2, f3, f4, by rw [grp_copyOf, if_pos rfl, f5, hn]⟩
    · rename_i er
      rw [k2] at hd
      split at hd
      · rename_i e; subst e; cases hd
        exact ⟨⟨O, root, false, H.clock⟩, by rw [blk_copyOf, if_pos hn.symm], rfl, rfl, hcl, hO, by rw [grp_copyOf, if_neg er]; exact h.wf.fresh _ (by rw [hn]; exact Nat.le_refl _)⟩
      · rename_i e
        obtain ⟨b2, hb2, hr2⟩ := h.blk d fb hd
        refine ⟨b2, by rw [blk_copyOf, if_neg (by rw [hn]; exact e)]; exact hb2, ?_⟩
        cases fb with
        | xx => exact hr2
        | gg => obtain ⟨a1, a2, a3, a4, a5⟩ := hr2; exact ⟨a1, a2, a3, a4, by rw [grp_copyOf, if_neg er]; exact a5⟩

/-! ### Cells -/
theorem cells_of {c : Nat} {b : Blk} {C : Array Value} {e : TypeId} {fr : Nat × Nat} (hb : H.blk c = some b) (hl : H.live c b = true) (ho : b.obj = .cells C e fr) : H.cells c = some (C, e, fr) := by
  unfold AH.cells
  simp only [hb, hl, ho]
noncomputable def byK (k : FV → Bool) (b : Nat) : Bool := k (.ii .u8 (.ofNat b))
noncomputable def cellO (k : FV → Bool) (off : Nat) (o : FObj) : Bool :=
  FObj.rec (motive := fun _ => Bool) (fun _ t _ _ _ => Q.getK k t off) (fun n x _ _ _ => ifK (natK (byK k) (Nat.mod (Nat.shiftRight x (Nat.mul 8 off)) 256)) (Nat.ble (Nat.succ off) n)) (fun _ _ _ => false) (fun _ _ => false) o
/-- One cell. -/
noncomputable def cellK (k : FV → Bool) (F : FH) (c off : Nat) : Bool := objK (cellO k off) F c
theorem byteC_mod (x : Nat) : byteC (UInt8.ofNat x) = .int .u8 (Int.ofNat (x % 256)) := by
  unfold byteC
  rw [UInt8.toNat_ofNat']
theorem cellO_ok {k : FV → Bool} {off : Nat} {o : FObj} {O : Obj} (hO : FObjR o O) (h : cellO k off o = true) : ∃ C e fr f, O = .cells C e fr ∧ C[off]? = some (FV.val f) ∧ k f = true := by
  cases o with
  | cl n t e lo hi =>
    obtain ⟨C, rfl, _, h2⟩ := hO
    obtain ⟨f, h3, h4⟩ := Q.getK_ok h
    exact ⟨C, e, _, f, rfl, h2 _ _ h3, h4⟩
  | yy n x e lo hi =>
    have h : ifK (natK (byK k) (Nat.mod (Nat.shiftRight x (Nat.mul 8 off)) 256)) (Nat.ble (Nat.succ off) n) = true := h
    obtain ⟨h1, h2⟩ := ifK_ok h
    rw [natK_eq] at h2
    have h1 : off < n := Nat.le_of_ble_eq_true h1
    refine ⟨_, e, _, _, hO, ?_, h2⟩
    rw [List.getElem?_toArray, List.getElem?_map, bytesL_get h1]
    simp only [Option.map_some, byteC_mod]
    rfl
  | it => cases h
  | mp => cases h
theorem cellK_ok {k : FV → Bool} {c off : Nat} (h : HR F H) (hk : cellK k F c off = true) : ∃ C e fr f, H.cells c = some (C, e, fr) ∧ C[off]? = some (FV.val f) ∧ k f = true := by
  obtain ⟨o, b, hb, hl, ho, h2⟩ := objK_ok h hk
  obtain ⟨C, e, fr, f, h3, h4, h5⟩ := cellO_ok ho h2
  exact ⟨C, e, fr, f, cells_of hb hl h3, h4, h5⟩

noncomputable def consK (k : List FV → Bool) (f : FV) (l : List FV) : Bool := k (f :: l)
/-- Cells one behind the other, of a tree. -/
noncomputable def cellsQ (t : Q FV) (n : Nat) : (List FV → Bool) → Nat → Bool :=
  Nat.rec (motive := fun _ => (List FV → Bool) → Nat → Bool) (fun k _ => k []) (fun _ ih k off => Q.getK (fun f => ih (consK k f) (Nat.succ off)) t off) n
theorem cellsQ_ok {t : Q FV} {C : Array Value} (hC : ∀ i f, t.get i = some f → C[i]? = some (FV.val f)) : ∀ (n : Nat) (k : List FV → Bool) (off : Nat), cellsQ t n k off = true → ∃ l, (C.toList.drop off).take n = FV.vals l ∧ l.length = n ∧ off + n ≤ C.size + (if n = 0 then off else 0) ∧ k l = true
  | 0, k, off, h => ⟨[], by simp [FV.vals], rfl, by simp, h⟩
  | n + 1, k, off, h => by
    have h : Q.getK (fun f => cellsQ t n (consK k f) (Nat.succ off)) t off = true := h
    obtain ⟨f, h1, h2⟩ := Q.getK_ok h
    obtain ⟨l, h3, h4, h5, h6⟩ := cellsQ_ok hC n _ _ h2
    have hf := hC _ _ h1
    have hlt : off < C.size := (Array.getElem?_eq_some_iff.1 hf).1
    have hd : C.toList.drop off = f.val :: C.toList.drop (off + 1) := by
      rw [List.drop_eq_getElem_cons (by simpa using hlt)]
      congr 1
      have := (Array.getElem?_eq_some_iff.1 hf).2
      simpa using this
    refine ⟨f :: l, ?_, by simp [h4], ?_, h6⟩
    · rw [hd, FV.vals, ← h3]; rfl
    · rw [if_neg (by omega)]
      split at h5 <;> omega
noncomputable def bytesQ (n : Nat) : (List FV → Bool) → Nat → Bool :=
  Nat.rec (motive := fun _ => (List FV → Bool) → Nat → Bool) (fun k _ => k []) (fun _ ih k x => natK (fun b => ih (consK k (.ii .u8 (.ofNat b))) (Nat.div x 256)) (Nat.mod x 256)) n
theorem bytesQ_ok : ∀ (n : Nat) (k : List FV → Bool) (x : Nat), bytesQ n k x = true → ∃ l, (bytesL n x).map byteC = FV.vals l ∧ l.length = n ∧ k l = true
  | 0, k, x, h => ⟨[], rfl, rfl, h⟩
  | n + 1, k, x, h => by
    have h : natK (fun b => bytesQ n (consK k (.ii .u8 (.ofNat b))) (Nat.div x 256)) (Nat.mod x 256) = true := h
    rw [natK_eq] at h
    obtain ⟨l, h1, h2, h3⟩ := bytesQ_ok n _ _ h
    refine ⟨_ :: l, ?_, by simp [h2], h3⟩
    rw [bytesL, List.map_cons, FV.vals, ← show (bytesL n (x / 256)).map byteC = FV.vals l from h1, byteC_mod]
    rfl
noncomputable def rowO (k : List FV → Bool) (off n : Nat) (o : FObj) : Bool :=
  FObj.rec (motive := fun _ => Bool) (fun N t _ _ _ => ifK (cellsQ t n k off) (Nat.ble (Nat.add off n) N)) (fun N x _ _ _ => ifK (bytesQ n k (Nat.shiftRight x (Nat.mul 8 off))) (Nat.ble (Nat.add off n) N)) (fun _ _ _ => false) (fun _ _ => false) o
/-- Some cells one behind the other. -/
noncomputable def cellsK (k : List FV → Bool) (F : FH) (c off n : Nat) : Bool := objK (rowO k off n) F c
theorem rowO_ok {k : List FV → Bool} {off n : Nat} {o : FObj} {O : Obj} (hO : FObjR o O) (h : rowO k off n o = true) : ∃ C e fr l, O = .cells C e fr ∧ off + n ≤ C.size ∧ (C.toList.drop off).take n = FV.vals l ∧ l.length = n ∧ k l = true := by
  cases o with
  | cl N t e lo hi =>
    obtain ⟨C, rfl, h1, h2⟩ := hO
    have h : ifK (cellsQ t n k off) (Nat.ble (Nat.add off n) N) = true := h
    obtain ⟨h3, h4⟩ := ifK_ok h
    obtain ⟨l, h5, h6, _, h7⟩ := cellsQ_ok h2 _ _ _ h4
    exact ⟨C, e, _, l, rfl, by rw [h1]; exact Nat.le_of_ble_eq_true h3, h5, h6, h7⟩
  | yy N x e lo hi =>
    have h : ifK (bytesQ n k (Nat.shiftRight x (Nat.mul 8 off))) (Nat.ble (Nat.add off n) N) = true := h
    obtain ⟨h3, h4⟩ := ifK_ok h
    have h3 : off + n ≤ N := Nat.le_of_ble_eq_true h3
    obtain ⟨l, h5, h6, h7⟩ := bytesQ_ok _ _ _ h4
    refine ⟨_, e, _, l, hO, by simpa [bytesL_len] using h3, ?_, h6, h7⟩
    rw [← h5]
    have e1 : (bytesL N x).drop off = bytesL (N - off) (Nat.shiftRight x (8 * off)) := by
      have := bytesL_drop off (N - off) x
      rwa [show off + (N - off) = N by omega] at this
    have e2 : (bytesL (N - off) (Nat.shiftRight x (8 * off))).take n = bytesL n (Nat.shiftRight x (8 * off)) := by
      have := bytesL_take n (N - off - n) (Nat.shiftRight x (8 * off))
      rwa [show n + (N - off - n) = N - off by omega] at this
    show (((bytesL N x).map byteC).drop off).take n = (bytesL n (Nat.shiftRight x (8 * off))).map byteC
    rw [← List.map_drop, ← List.map_take, e1, e2]
  | it => cases h
  | mp => cases h
theorem cellsK_ok {k : List FV → Bool} {c off n : Nat} (h : HR F H) (hk : cellsK k F c off n = true) : ∃ C e fr l, H.cells c = some (C, e, fr) ∧ off + n ≤ C.size ∧ (C.toList.drop off).take n = FV.vals l ∧ l.length = n ∧ k l = true := by
  obtain ⟨o, b, hb, hl, ho, h2⟩ := objK_ok h hk
  obtain ⟨C, e, fr, l, h3, h4, h5, h6, h7⟩ := rowO_ok ho h2
  exact ⟨C, e, fr, l, cells_of hb hl h3, h4, h5, h6, h7⟩
end
end Go.Proofs.YtaadahhjdkkkaaaGreatDoor.Ev
