/-
  A block that nobody looks at: what a function of the library hands back by address, and of which nothing is said but that it is there.
-/
import Derived.Test.YtenolmhnmcjndaaGreatDoorEvSymX
namespace Go.Proofs.YtenolmhnmcjndaaGreatDoor.Ev
set_option linter.unusedVariables false
set_option linter.unusedSimpArgs false
open Go Go.RowKit
section
variable {P : Program} {φ : Phi} {H H' : AH} {w w' : World}

theorem hstep_keeps (hw : WfH H) (k : Keeps H H') (hc : H.clock ≤ H'.clock) : HStep H H' where
  next := k.next
  clock := hc
  blk := fun c b hb => ⟨b, (k.blk c (hw.lt c b hb).1).trans hb, rfl, rfl, hw.shp c b hb, fun h => by simp only [AH.live, k.grp c b hb] at h ⊢; exact h, .inl ⟨rfl, rfl⟩⟩

theorem step_lift (hs : Sim P φ H w) (k : Keeps H H') (hc : H.clock ≤ H'.clock) : Step P φ H w φ H' w where
  h := hstep_keeps hs.wf k hc
  ext := fun _ _ h => h
  old := fun _ _ h => h
  os := rfl
  tape := rfl
  output := rfl
  size := Nat.le_refl _
  shape := fun r C e fr h => ⟨C, fr, h, rfl⟩
  frame := fun _ _ _ => rfl
  new := fun c r δ h h' => by rw [h] at h'; cases h'
  heads := fun c b hb _ => by rw [k.grp c b hb]

theorem sim_lift (hs : Sim P φ H w) (k : Keeps H H') (hc : H.clock ≤ H'.clock) : Sim P φ H' w := by
  have hbl : ∀ c x b, φ c = some x → H'.blk c = some b → H.blk c = some b := fun c x b h hb => (k.blk c (hs.lt h)).symm.trans hb
  constructor
  case wf => exact k.wf
  case blk => intro c r δ h; rw [k.blk c (hs.lt h)]; exact hs.blk c r δ h
  case real => exact hs.real
  case obj =>
    intro c r δ b h hb hl
    have hb0 := hbl c _ b h hb
    exact ObjR.mono (step_lift hs k hc) rfl (fun ht => by simp only [AH.tip, k.grp c b hb0] at ht ⊢; exact ht) (hs.obj c r δ b h hb0 (by simp only [AH.live, k.grp c b hb0] at hl ⊢; exact hl))
  case sep => intro c d r δ ε b b' h h' hb hb'; exact hs.sep c d r δ ε b b' h h' (hbl c _ b h hb) (hbl d _ b' h' hb')
  case ends => intro c d r δ ε b b' C C' e e' f f' h h' hb hb'; exact hs.ends c d r δ ε b b' C C' e e' f f' h h' (hbl c _ b h hb) (hbl d _ b' h' hb')
  case fix =>
    refine ⟨hs.fix.1, fun g hg => ⟨(hs.fix.2 g hg).1, fun c δ b h hb => ?_⟩⟩
    have hb0 := hbl c _ b h hb
    have hro := (hs.fix.2 g hg).2 c δ b h hb0
    exact ⟨hro.1, by rw [k.grp c b hb0]; exact hro.2⟩

def gho : Obj := .cells #[] 0 (0, 0)
def AH.ghost (H : AH) : AH := ((H.alloc gho false).copyOf gho H.next).put (H.next + 1) ⟨gho, H.next, false, H.clock + 1⟩ gho

theorem ghost_keep (hw : WfH H) : Keeps H H.ghost ∧ H.clock ≤ H.ghost.clock ∧ Dead H.ghost H.next := by
  have sh : shapeSame gho gho := ⟨rfl, rfl⟩
  have w1 : WfH (H.alloc gho false) := hw.alloc sh
  have b1 : (H.alloc gho false).blk H.next = some ⟨gho, H.next, false, H.clock⟩ := blk_alloc_new
  have w2 : WfH ((H.alloc gho false).copyOf gho H.next) := w1.copyOf b1 rfl sh
  have n1 : (H.alloc gho false).next = H.next + 1 := next_alloc
  have b2 : ((H.alloc gho false).copyOf gho H.next).blk (H.next + 1) = some ⟨gho, H.next, false, H.clock + 1⟩ := blk_copyOf_new
  have g2 : ((H.alloc gho false).copyOf gho H.next).grp H.next = (H.next + 1, H.next) := by
    rw [grp_copyOf, if_pos rfl, grp_alloc, hw.fresh _ (Nat.le_refl _)]; rfl
  have w3 : WfH H.ghost := w2.put b2 (live_iff.2 (by show (AH.grp _ H.next).2 ≤ _; rw [g2]; exact Nat.le_succ _)) (tip_iff.2 (by show (AH.grp _ H.next).1 = _; rw [g2])) sh
  have hbk : ∀ c, c < H.next → H.ghost.blk c = H.blk c := fun c hc => by
    unfold AH.ghost
    rw [blk_put, if_neg (by omega), blk_copyOf, if_neg (by rw [n1]; omega), blk_alloc, if_neg (by omega)]
  have hgr : ∀ r, r < H.next → H.ghost.grp r = H.grp r := fun r hr => by
    unfold AH.ghost
    rw [grp_put, if_neg (by show ¬ r = H.next; omega), grp_copyOf, if_neg (by omega), grp_alloc]
  have gg : H.ghost.grp H.next = (H.next + 1, H.next + 1) := by
    unfold AH.ghost
    rw [grp_put, if_pos rfl]
    show ((AH.grp _ H.next).1, H.next + 1) = _
    rw [g2]
  refine ⟨⟨w3, ?_, hbk, fun c b hb => hgr _ ?_⟩, ?_, ?_⟩
  · show H.next ≤ ((H.alloc gho false).copyOf gho H.next).next
    rw [next_copyOf, n1]; omega
  · have := hw.lt c b hb; omega
  · show H.clock ≤ H.clock + 1 + 1 + 1; omega
  · refine ⟨⟨gho, H.next, false, H.clock⟩, ?_, ?_⟩
    · unfold AH.ghost
      rw [blk_put, if_neg (by omega), blk_copyOf, if_neg (by rw [n1]; omega)]; exact b1
    · refine Bool.eq_false_iff.2 fun h => ?_
      have h2 := live_iff.1 h
      rw [show (H.ghost.grp (Blk.root ⟨gho, H.next, false, H.clock⟩)) = (H.next + 1, H.next + 1) from gg] at h2
      exact absurd h2 (by simp)

/-- A contract over values alone, that may hand back an error by address (of which nothing is said): a pair of a value and it. -/
def errVal (te : TypeId) (H : AH) : Value := .iface te (.pointer (some ⟨H.next, 0, none⟩))
theorem prim_err {f : FuncId} {g : List Value → AH → Option (Value × AH)} (hf : ∃ fn, P.funcs[f]? = some fn ∧ fn.body.isSome = true)
    (h : ∀ args H v H', g args H = some (v, H') → args.all flatB = true ∧
      ((H' = H ∧ flatB v = true ∧ ∀ w, Tabs w → Calls P f args.toArray w fun e w' => e = .returned v ∧ Below w.heap.size w w') ∨
       (∃ x te, flat2 x = true ∧ v = .tuple #[x, errVal te H] ∧ H' = H.ghost ∧ ∀ w, Tabs w → Calls P f args.toArray w fun e w' => ∃ q, e = .returned (.tuple #[x, .iface te (.pointer (some q))]) ∧ Below w.heap.size w w'))) :
    CallOk P (fun f' args H => if f' = f then g args H else none) := by
  intro f' args H v H' hg
  simp only at hg
  split at hg
  · rename_i e
    subst e
    obtain ⟨ha, hc⟩ := h args H v H' hg
    refine ⟨hf, fun φ w args' hs hn hrel => ?_⟩
    have : args' = args.toArray := by
      apply Array.ext'
      refine List.ext_getElem? fun i => ?_
      by_cases hi : i < args.length
      · have h1 : args[i]? = some args[i] := List.getElem?_eq_getElem hi
        have h2 : args'[i]? = some args'[i] := Array.getElem?_eq_getElem (by omega)
        rw [Array.getElem?_toList, h1, h2]
        exact congrArg some (val_eq (List.all_eq_true.1 ha _ (List.getElem_mem hi)) (hrel i _ _ h1 h2)).symm
      · have h1 : args'.toList[i]? = none := by rw [Array.getElem?_toList]; exact Array.getElem?_eq_none (by omega)
        have h2 : args.toArray.toList[i]? = none := by simp; omega
        rw [h1, h2]
    subst this
    rcases hc with ⟨rfl, hv, hc⟩ | ⟨x, te, hx, rfl, rfl, hc⟩
    · exact (hc w hs.fix.1).mono fun e w' ⟨he, hB⟩ => ⟨v, he, good_below hs hB hv⟩
    · refine (hc w hs.fix.1).mono fun e w' ⟨q, he, hB⟩ => ⟨_, he, φ, ?_, ?_, ?_⟩
      · obtain ⟨k, hk, _⟩ := ghost_keep hs.wf
        exact (step_below hs hB).trans hs (step_lift (sim_below hs hB) k hk)
      · obtain ⟨k, hk, _⟩ := ghost_keep hs.wf
        exact sim_lift (sim_below hs hB) k hk
      · obtain ⟨k, hk, hd⟩ := ghost_keep hs.wf
        refine .tuple ⟨rfl, fun i a b ha hb => ?_⟩
        match i with
        | 0 => cases ha; cases hb; exact part_refl hx
        | 1 => cases ha; cases hb; exact .cell (.iface (.ptr (.inl hd)))
        | i + 2 => simp at ha
  · cases hg
end
end Go.Proofs.YtenolmhnmcjndaaGreatDoor.Ev
