/-
  The evaluator's heap: what a new block, a copy, a write do to it.
-/
import Derived.Test.YtofigleaealbjaaGreatDoorEvRel
namespace Go.Proofs.YtofigleaealbjaaGreatDoor.Ev
open Go

section
variable {H : AH} {o : Obj} {ex : Bool} {c d r root : Nat} {b : Blk}

theorem blk_alloc : (H.alloc o ex).blk d = if d = H.next then some ⟨o, H.next, ex, H.clock⟩ else H.blk d := by
  simp only [AH.blk, AH.alloc]; exact Tr.get_set _ _ _ _ _ (by omega)
theorem grp_alloc : (H.alloc o ex).grp r = H.grp r := rfl
theorem live_alloc : (H.alloc o ex).live d b = H.live d b := rfl
theorem tip_alloc : (H.alloc o ex).tip d b = H.tip d b := rfl
theorem next_alloc : (H.alloc o ex).next = H.next + 1 := rfl

theorem blk_copyOf : (H.copyOf o root).blk d = if d = H.next then some ⟨o, root, false, H.clock⟩ else H.blk d := by
  simp only [AH.blk, AH.copyOf]; exact Tr.get_set _ _ _ _ _ (by omega)
theorem grp_copyOf : (H.copyOf o root).grp r = if r = root then (H.next, (H.grp root).2) else H.grp r := by
  simp only [AH.grp, AH.copyOf, Tr.get_set _ _ root _ _ (Nat.lt_succ_self root)]
  split <;> simp_all
theorem next_copyOf : (H.copyOf o root).next = H.next + 1 := rfl

theorem blk_put : (H.put c b o).blk d = if d = c then some { b with obj := o, ver := H.clock } else H.blk d := by
  simp only [AH.blk, AH.put]; exact Tr.get_set _ _ _ _ _ (by omega)
theorem grp_put : (H.put c b o).grp r = if r = b.root then ((H.grp b.root).1, c) else H.grp r := by
  unfold AH.put AH.grp
  simp only
  split
  · rename_i h
    have h := Nat.eq_of_beq_eq_true h
    split
    · rename_i e; subst e; exact Prod.ext rfl h
    · rfl
  · rw [Tr.get_set _ _ b.root _ _ (Nat.lt_succ_self _)]
    split <;> simp_all
theorem next_put : (H.put c b o).next = H.next := rfl
theorem clock_put : (H.put c b o).clock = H.clock + 1 := rfl

theorem blk_alloc_new : (H.alloc o ex).blk H.next = some ⟨o, H.next, ex, H.clock⟩ := by rw [blk_alloc, if_pos rfl]
theorem blk_copyOf_new : (H.copyOf o root).blk H.next = some ⟨o, root, false, H.clock⟩ := by rw [blk_copyOf, if_pos rfl]
theorem blk_put_same : (H.put c b o).blk c = some ⟨o, b.root, b.exact, H.clock⟩ := by rw [blk_put, if_pos rfl]
theorem live_iff : H.live c b = true ↔ (H.grp b.root).2 ≤ c := by simp [AH.live]
theorem tip_iff : H.tip c b = true ↔ (H.grp b.root).1 = c := by simp [AH.tip]

theorem WfH.empty : WfH AH.empty := by
  constructor <;> intro c <;> (try intro b h) <;> first | (simp [AH.empty, AH.blk, Tr.get_nil] at h; done) | skip
  intro _; simp [AH.empty, AH.grp, Tr.get_nil]

theorem WfH.none (hw : WfH H) (h : H.next ≤ c) : H.blk c = none := by
  cases hb : H.blk c with
  | none => rfl
  | some b => have := (hw.lt c b hb).1; omega

theorem WfH.alloc (hw : WfH H) (ho : shapeSame o o) : WfH (H.alloc o ex) where
  lt := fun d b hb => by
    rw [blk_alloc] at hb; rw [next_alloc]
    split at hb
    · obtain rfl := Option.some.inj hb; simp; omega
    · have := hw.lt d b hb; omega
  head := fun d b hb => by
    rw [blk_alloc] at hb; rw [grp_alloc, next_alloc]
    split at hb
    · obtain rfl := Option.some.inj hb; rw [hw.fresh _ (Nat.le_refl _)]; simp; omega
    · have := hw.head d b hb; omega
  exact := fun d b hb he => by
    rw [blk_alloc] at hb; rw [grp_alloc]
    split at hb
    · rename_i e; subst e; obtain rfl := Option.some.inj hb
      refine ⟨rfl, by rw [hw.fresh _ (Nat.le_refl _)], fun k b' hk hr => ?_⟩
      rw [blk_alloc] at hk
      split at hk
      · assumption
      · have := hw.lt k b' hk; omega
    · have hx := hw.exact d b hb he
      refine ⟨hx.1, hx.2.1, fun k b' hk hr => ?_⟩
      rw [blk_alloc] at hk
      split at hk
      · obtain rfl := Option.some.inj hk
        have := hw.lt d b hb; simp at hr; omega
      · exact hx.2.2 k b' hk hr
  floor := fun d b hb => by
    rw [blk_alloc] at hb; rw [grp_alloc]
    split at hb
    · obtain rfl := Option.some.inj hb; rw [hw.fresh _ (Nat.le_refl _)]; simp
    · exact hw.floor d b hb
  headBlk := fun d b hb => by
    rw [blk_alloc] at hb; rw [grp_alloc]
    split at hb
    · obtain rfl := Option.some.inj hb
      rw [hw.fresh _ (Nat.le_refl _)]
      exact ⟨_, blk_alloc_new, rfl⟩
    · obtain ⟨b', h1, h2⟩ := hw.headBlk d b hb
      exact ⟨b', by rw [blk_alloc, if_neg (by have := (hw.lt _ _ h1).1; omega)]; exact h1, h2⟩
  ver := fun d b hb => by
    rw [blk_alloc] at hb
    show b.ver < H.clock + 1
    split at hb
    · obtain rfl := Option.some.inj hb; simp
    · have := hw.ver d b hb; omega
  fresh := fun r hr => by rw [grp_alloc]; exact hw.fresh r (by rw [next_alloc] at hr; omega)
  shp := fun d b hb => by
    rw [blk_alloc] at hb
    split at hb
    · obtain rfl := Option.some.inj hb; exact ho
    · exact hw.shp d b hb

theorem HStep.alloc (hw : WfH H) : HStep H (H.alloc o ex) where
  next := by rw [next_alloc]; omega
  clock := by show H.clock ≤ H.clock + 1; omega
  blk := fun d b hb => ⟨b, by rw [blk_alloc, if_neg (by have := (hw.lt _ _ hb).1; omega)]; exact hb, rfl, rfl, hw.shp d b hb, id, .inl ⟨rfl, rfl⟩⟩

/-- A copy of a row, whose tip it was. -/
theorem WfH.copyOf (hw : WfH H) (hb : H.blk c = some b) (he : b.exact = false) (ho : shapeSame o o) : WfH (H.copyOf o b.root) where
  lt := fun d b' hd => by
    have hr := hw.lt c b hb
    rw [blk_copyOf] at hd; rw [next_copyOf]
    split at hd
    · obtain rfl := Option.some.inj hd; simp; omega
    · have := hw.lt d b' hd; omega
  head := fun d b' hd => by
    rw [blk_copyOf] at hd; rw [grp_copyOf, next_copyOf]
    split at hd
    · obtain rfl := Option.some.inj hd; simp; omega
    · have := hw.head d b' hd
      have := hw.lt d b' hd
      split <;> omega
  exact := fun d b' hd hx => by
    have hr := hw.lt c b hb
    rw [blk_copyOf] at hd; rw [grp_copyOf]
    split at hd
    · obtain rfl := Option.some.inj hd; simp at hx
    · have h := hw.exact d b' hd hx
      have hne : ¬ (d = b.root) := fun e => by
        subst e
        have := h.2.2 c b hb rfl
        rw [← this, hb] at hd
        obtain rfl := Option.some.inj hd
        rw [he] at hx; cases hx
      refine ⟨h.1, by rw [if_neg hne]; exact h.2.1, fun k b2 hk hrt => ?_⟩
      rw [blk_copyOf] at hk
      split at hk
      · obtain rfl := Option.some.inj hk; exact absurd hrt.symm hne
      · exact h.2.2 k b2 hk hrt
  floor := fun d b' hd => by
    rw [blk_copyOf] at hd; rw [grp_copyOf]
    have hf := hw.floor c b hb
    have hh := hw.head c b hb
    split at hd
    · obtain rfl := Option.some.inj hd; simp only [if_true]; omega
    · split
      · simp only; omega
      · exact hw.floor d b' hd
  headBlk := fun d b' hd => by
    rw [blk_copyOf] at hd; rw [grp_copyOf]
    split at hd
    · obtain rfl := Option.some.inj hd
      simp only [if_true]
      exact ⟨_, blk_copyOf_new, rfl⟩
    · split
      · rename_i e
        exact ⟨_, blk_copyOf_new, e.symm⟩
      · obtain ⟨b2, h1, h2⟩ := hw.headBlk d b' hd
        exact ⟨b2, by rw [blk_copyOf, if_neg (by have := (hw.lt _ _ h1).1; omega)]; exact h1, h2⟩
  ver := fun d b' hd => by
    rw [blk_copyOf] at hd
    show b'.ver < H.clock + 1
    split at hd
    · obtain rfl := Option.some.inj hd; simp
    · have := hw.ver d b' hd; omega
  fresh := fun r hr => by
    have := hw.lt c b hb
    rw [next_copyOf] at hr
    rw [grp_copyOf, if_neg (by omega)]; exact hw.fresh r (by omega)
  shp := fun d b' hd => by
    rw [blk_copyOf] at hd
    split at hd
    · obtain rfl := Option.some.inj hd; exact ho
    · exact hw.shp d b' hd

theorem HStep.copyOf (hw : WfH H) : HStep H (H.copyOf o root) where
  next := by rw [next_copyOf]; omega
  clock := by show H.clock ≤ H.clock + 1; omega
  blk := fun d b hb => ⟨b, by rw [blk_copyOf, if_neg (by have := (hw.lt _ _ hb).1; omega)]; exact hb, rfl, rfl, hw.shp d b hb, fun h => by
    rw [live_iff] at *; rw [grp_copyOf] at h; split at h
    · rename_i e; subst e; exact h
    · exact h, .inl ⟨rfl, rfl⟩⟩

theorem WfH.put (hw : WfH H) (hb : H.blk c = some b) (hl : H.live c b = true) (ht : H.tip c b = true) (ho' : shapeSame o o) : WfH (H.put c b o) := by
  have get : ∀ d b', (H.put c b o).blk d = some b' → ∃ b0, H.blk d = some b0 ∧ b0.root = b'.root ∧ b0.exact = b'.exact ∧ b'.ver ≤ H.clock := fun d b' hd => by
    rw [blk_put] at hd
    split at hd
    · rename_i e; subst e; obtain rfl := Option.some.inj hd; exact ⟨b, hb, rfl, rfl, Nat.le_refl _⟩
    · exact ⟨b', hd, rfl, rfl, Nat.le_of_lt (hw.ver _ _ hd)⟩
  have back : ∀ d b0, H.blk d = some b0 → ∃ b', (H.put c b o).blk d = some b' ∧ b'.root = b0.root := fun d b0 hd => by
    rw [blk_put]
    split
    · rename_i e; subst e; rw [hb] at hd; obtain rfl := Option.some.inj hd; exact ⟨_, rfl, rfl⟩
    · exact ⟨b0, hd, rfl⟩
  rw [live_iff] at hl
  rw [tip_iff] at ht
  constructor
  case lt => intro d b' hd; obtain ⟨b0, h0, hr, _⟩ := get d b' hd; rw [← hr]; exact hw.lt d b0 h0
  case head =>
    intro d b' hd; obtain ⟨b0, h0, hr, _⟩ := get d b' hd
    rw [← hr, grp_put, next_put]
    have := hw.head d b0 h0
    split
    · rename_i e; rw [e] at this; exact this
    · exact this
  case exact =>
    intro d b' hd hx; obtain ⟨b0, h0, hr, he, _⟩ := get d b' hd
    have h := hw.exact d b0 h0 (he.trans hx)
    refine ⟨hr ▸ h.1, ?_, fun k b2 hk hrt => ?_⟩
    · rw [grp_put]; split
      · rename_i e; subst e; exact h.2.1
      · exact h.2.1
    · obtain ⟨b3, h3, hr3, _⟩ := get k b2 hk
      exact h.2.2 k b3 h3 (hr3.trans hrt)
  case floor =>
    intro d b' hd; obtain ⟨b0, h0, hr, _⟩ := get d b' hd
    rw [← hr, grp_put]
    split
    · simp; omega
    · exact hw.floor d b0 h0
  case headBlk =>
    intro d b' hd; obtain ⟨b0, h0, hr, _⟩ := get d b' hd
    obtain ⟨b1, h1, h2⟩ := hw.headBlk d b0 h0
    have he : ((H.put c b o).grp b'.root).1 = (H.grp b0.root).1 := by
      rw [← hr, grp_put]; split
      · rename_i e; rw [e]
      · rfl
    rw [he]
    obtain ⟨b2, h3, h4⟩ := back _ _ h1
    exact ⟨b2, h3, by rw [h4, h2, hr]⟩
  case ver => intro d b' hd; obtain ⟨b0, _, _, _, hv⟩ := get d b' hd; rw [clock_put]; omega
  case fresh =>
    intro r hr
    rw [next_put] at hr
    rw [grp_put, if_neg (by have := hw.lt c b hb; omega)]; exact hw.fresh r hr
  case shp =>
    intro d b' hd
    rw [blk_put] at hd
    split at hd
    · obtain rfl := Option.some.inj hd; exact ho'
    · exact hw.shp d b' hd

theorem HStep.put (hw : WfH H) (hb : H.blk c = some b) (hl : H.live c b = true) (ho : shapeSame b.obj o) : HStep H (H.put c b o) where
  next := Nat.le_refl _
  clock := by rw [clock_put]; omega
  blk := fun d b0 hd => by
    rw [live_iff] at hl
    have hlive : ∀ b' : Blk, b'.root = b0.root → (H.put c b o).live d b' = true → H.live d b0 = true := fun b' hr h => by
      rw [live_iff] at *; rw [grp_put, hr] at h
      split at h
      · rename_i e; rw [e]; simp at h; omega
      · exact h
    by_cases e : d = c
    · subst e
      rw [hb] at hd; obtain rfl := Option.some.inj hd
      exact ⟨_, blk_put_same, rfl, rfl, ho, hlive _ rfl, .inr (Nat.le_refl _)⟩
    · exact ⟨b0, by rw [blk_put, if_neg e]; exact hd, rfl, rfl, hw.shp d b0 hd, hlive _ rfl, .inl ⟨rfl, rfl⟩⟩
end
end Go.Proofs.YtofigleaealbjaaGreatDoor.Ev
