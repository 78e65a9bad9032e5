/-
  The evaluator at values that stand for any: blocks of one's own; a range over a string.
-/
import Derived.Test.YtofigleaealbjaaGreatDoorEvSymOps
namespace Go.Proofs.YtofigleaealbjaaGreatDoor.Ev
open Go
section
variable {P : Program} {prims : Prims} {ops : Array Oper} {o : Oper} {r : List Oper} {e e' : List Value} {H H0 H1 H2 : AH} {Q : List Value → AH → Prop} {c : Nat} {ob ob' : Obj} {ex : Bool}

/-- What was there is as it was. -/
structure Keeps (H H' : AH) : Prop where
  wf : WfH H'
  next : H.next ≤ H'.next
  blk : ∀ c, c < H.next → H'.blk c = H.blk c
  grp : ∀ c b, H.blk c = some b → H'.grp b.root = H.grp b.root

/-- A block that shares no row. -/
def Own (H : AH) (c : Nat) (o : Obj) (ex : Bool) : Prop := ∃ ver, H.blk c = some ⟨o, c, ex, ver⟩ ∧ H.grp c = (c, c)

theorem Keeps.refl (hw : WfH H) : Keeps H H := ⟨hw, Nat.le_refl _, fun _ _ => rfl, fun _ _ _ => rfl⟩
theorem Keeps.trans (h : Keeps H0 H1) (k : Keeps H1 H2) (hw : WfH H0) : Keeps H0 H2 :=
  ⟨k.wf, Nat.le_trans h.next k.next, fun c hc => (k.blk c (Nat.lt_of_lt_of_le hc h.next)).trans (h.blk c hc),
   fun c b hb => (k.grp c b ((h.blk c (hw.lt c b hb).1).trans hb)).trans (h.grp c b hb)⟩

theorem Own.lt (hw : WfH H) (h : Own H c ob ex) : c < H.next := by obtain ⟨v, h1, _⟩ := h; exact (hw.lt _ _ h1).1
theorem Own.keep (hw : WfH H) (h : Own H c ob ex) (k : Keeps H H1) : Own H1 c ob ex := by
  have hc := h.lt hw
  obtain ⟨v, h1, h2⟩ := h
  exact ⟨v, (k.blk c hc).trans h1, (k.grp c _ h1).trans h2⟩

theorem Keeps.alloc (hw : WfH H) (ho : shapeSame ob ob) : Keeps H (H.alloc ob ex) :=
  ⟨hw.alloc ho, by rw [next_alloc]; omega, fun c hc => by rw [blk_alloc, if_neg (by omega)], fun _ _ _ => grp_alloc⟩
theorem Own.alloc (hw : WfH H) : Own (H.alloc ob ex) H.next ob ex := ⟨_, blk_alloc_new, by rw [grp_alloc, hw.fresh _ (Nat.le_refl _)]⟩

theorem Own.put (h : Own H c ob ex) (v : Nat) : Own (H.put c ⟨ob, c, ex, v⟩ ob') c ob' ex := by
  obtain ⟨_, _, h2⟩ := h
  refine ⟨_, blk_put_same, ?_⟩
  rw [grp_put, if_pos rfl, h2]
theorem Own.wfPut {v : Nat} (hw : WfH H) (hb : H.blk c = some ⟨ob, c, ex, v⟩) (hg : H.grp c = (c, c)) (ho : shapeSame ob' ob') : WfH (H.put c ⟨ob, c, ex, v⟩ ob') :=
  hw.put hb (live_iff.2 (by rw [hg]; exact Nat.le_refl _)) (tip_iff.2 (by rw [hg])) ho
theorem Own.keepPut {v : Nat} (k : Keeps H0 H) (hw0 : WfH H0) (hc : H0.next ≤ c) (hb : H.blk c = some ⟨ob, c, ex, v⟩) (hg : H.grp c = (c, c)) (ho : shapeSame ob' ob') : Keeps H0 (H.put c ⟨ob, c, ex, v⟩ ob') := by
  refine ⟨Own.wfPut k.wf hb hg ho, k.next, fun d hd => ?_, fun d b hd => ?_⟩
  · rw [blk_put, if_neg (by omega)]; exact k.blk d hd
  · have hlt := hw0.lt d b hd
    rw [grp_put, if_neg (by show ¬ b.root = c; omega)]
    exact k.grp d b hd
theorem Own.other {d : Nat} {ob2 : Obj} {ex2 : Bool} {v : Nat} (h : Own H d ob2 ex2) (hd : d ≠ c) : Own (H.put c ⟨ob, c, ex, v⟩ ob') d ob2 ex2 := by
  obtain ⟨v2, h1, h2⟩ := h
  exact ⟨v2, by rw [blk_put, if_neg hd]; exact h1, by rw [grp_put, if_neg hd]; exact h2⟩

theorem OWp.rangeS {t : TypeId} {x : Operand} {s : ByteArray} (hw : WfH H) (hg : guardA ops o e = some true) (ho : o.op = .range t x) (ht : P.underlying t = some .string) (hx : rho e x = .string s)
    (hk : ∀ H1 i, WfH H1 → Keeps H H1 → H.next ≤ i → Own H1 i (.stringIter s 0) true → OWp P prims ops r (putE e o.dst (.pointer (some ⟨i, 0, none⟩))) H1 Q) : OWp P prims ops (o :: r) e H Q := by
  have sh : shapeSame (.stringIter s 0) (.stringIter s 0) := trivial
  exact OWp.step hg (fun call => by unfold evOp; simp only [ho, ht, hx]) rfl (hk _ _ (hw.alloc sh) (Keeps.alloc hw sh) (Nat.le_refl _) (Own.alloc hw))

end
end Go.Proofs.YtofigleaealbjaaGreatDoor.Ev
