/-
  What one operation does to the evaluator's heap, whatever the model does: what was there stays there, or is written anew.
-/
import Derived.Test.YtenolmhnmcjndaaGreatDoorEvRel
import Derived.Test.YtenolmhnmcjndaaGreatDoorEvOps
namespace Go.Proofs.YtenolmhnmcjndaaGreatDoor.Ev
set_option linter.unusedVariables false
set_option linter.unusedSimpArgs false
open Go

/-- One change of the heap, or none. -/
inductive Chg (H : AH) : AH → Prop where
  | none : Chg H H
  | alloc {o : Obj} {ex : Bool} : shapeSame o o → Chg H (H.alloc o ex)
  | put {c : Nat} {b : Blk} {o : Obj} : H.blk c = some b → H.live c b = true → H.tip c b = true → shapeSame b.obj o → shapeSame o o → Chg H (H.put c b o)
  | copyOf {c : Nat} {b : Blk} {o : Obj} : H.blk c = some b → b.exact = false → shapeSame o o → Chg H (H.copyOf o b.root)

theorem Chg.step {H H' : AH} (h : Chg H H') (hw : WfH H) : WfH H' ∧ HStep H H' := by
  cases h with
  | none => exact ⟨hw, HStep.refl hw.shp⟩
  | alloc sh => exact ⟨hw.alloc sh, HStep.alloc hw⟩
  | put hb hl ht s1 s2 => exact ⟨hw.put hb hl ht s2, HStep.put hw hb hl s1⟩
  | copyOf hb he sh => exact ⟨hw.copyOf hb he sh, HStep.copyOf hw⟩

/-- Of a call: what was there stays, or is written anew. -/
def CallH (call : CallA) : Prop := ∀ f args H v H', call f args H = some (v, H') → WfH H → WfH H' ∧ HStep H H'

section
variable {P : Program} {call : CallA} {o : Oper} {ρ : Operand → Value} {H H' : AH} {v : Value}

theorem chg_map {x : Option Value} (h : x.map (·, H) = some (v, H')) : Chg H H' := by
  cases x with
  | none => cases h
  | some y => cases h; exact .none

theorem bif_some {α : Type} {b : Bool} {x : Option α} {y : α} (h : (bif b then x else none) = some y) : x = some y := by
  cases b with
  | true => exact h
  | false => cases h
theorem cells_sh {C : Array Value} {e : TypeId} {fr : Nat × Nat} : shapeSame (.cells C e fr) (.cells C e fr) := ⟨rfl, rfl⟩

theorem writeCells_sz : ∀ (l : List Value) (C : Array Value) (i : Nat), (writeCells C i l).size = C.size
  | [], _, _ => rfl
  | v :: r, C, i => by rw [writeCells, writeCells_sz r]; simp

theorem chg_write {c : Nat} {b : Blk} {C : Array Value} {e : TypeId} {fr : Nat × Nat} {i : Nat} {l : List Value} (hb : H.blk c = some b) (ho : b.obj = .cells C e fr) (hl : H.live c b = true) (ht : H.tip c b = true) : Chg H (H.put c b (.cells (writeCells C i l) e fr)) :=
  .put hb hl ht (by rw [ho]; exact ⟨(writeCells_sz _ _ _).symm, rfl⟩) cells_sh

theorem storeA_chg {t : TypeId} {p : Addr} {x : Value} (h : storeA P H t p x = some H') : Chg H H' := by
  unfold storeA at h
  split at h
  case h_2 => cases h
  rename_i b hs hb
  split at h
  case h_2 => cases h
  rename_i C e lo hi ho
  split at h
  case isFalse => cases h
  rename_i hc
  cases h
  simp only [Bool.and_eq_true] at hc
  exact chg_write hb ho hc.1.1.1.1.1 hc.1.1.1.1.2

theorem storeCellsA_chg {p : Addr} {l : List Value} (h : storeCellsA H p l = some H') : Chg H H' := by
  unfold storeCellsA at h
  split at h
  case h_2 => cases h
  rename_i b hs hb
  split at h
  case h_2 => cases h
  rename_i C e lo hi ho
  split at h
  case isFalse => cases h
  rename_i hc
  cases h
  simp only [Bool.and_eq_true] at hc
  exact chg_write hb ho hc.1.1.1.1 hc.1.1.1.2

theorem buildSliceA_chg {t : TypeId} {n : Nat} {parts : List (Nat × Value)} (h : buildSliceA P H t n parts = some (v, H')) : Chg H H' := by
  unfold buildSliceA at h
  repeat' split at h
  all_goals first | (cases h; done) | (cases h; exact .alloc cells_sh) | (cases hp : parts.isEmpty <;> rw [hp] at h <;> cases h; exact .alloc cells_sh)

theorem makeSliceA_chg {t : TypeId} {l c : Value} (h : makeSliceA P H t l c = some (v, H')) : Chg H H' := by
  unfold makeSliceA at h
  repeat' split at h
  all_goals first | (cases h; done) | (cases h; exact .alloc cells_sh)

theorem mapUpdateA_chg {t : TypeId} {m k x : Value} (h : mapUpdateA P H t m k x = some H') : Chg H H' := by
  unfold mapUpdateA at h
  split at h
  case h_2 => cases h
  split at h
  case h_2 => cases h
  rename_i kd b hu hb
  split at h
  case h_2 => cases h
  rename_i es ck hc ho
  simp only [Bool.and_eq_true] at hc
  split at h
  · cases h; exact .put hb hc.1.1.1.1 hc.1.1.1.2 (by rw [ho]; trivial) trivial
  · cases h; exact .put hb hc.1.1.1.1 hc.1.1.1.2 (by rw [ho]; trivial) trivial
  · cases h
theorem mapUpdate_chg {t : TypeId} {m k x : Value} (h : (mapUpdateA P H t m k x).map (undef, ·) = some (v, H')) : Chg H H' := by
  cases hm : mapUpdateA P H t m k x with
  | none => rw [hm] at h; cases h
  | some H2 => rw [hm] at h; cases h; exact mapUpdateA_chg hm
theorem copyA_chg {dT : TypeId} {d x : Value} (h : copyA P H dT d x = some (v, H')) : Chg H H' := by
  unfold copyA at h
  split at h
  case h_2 => cases h
  split at h
  case h_2 => cases h
  split at h
  case isFalse => cases h
  split at h
  case h_2 => cases h
  rename_i hst
  cases h
  exact storeCellsA_chg hst

theorem markedA_chg {p : Addr} {n c : Nat} (h : markedA H p n c = some (v, H')) : Chg H H' := by
  unfold markedA at h
  split at h
  case h_2 => cases h
  rename_i b hb
  split at h
  case h_2 => cases h
  rename_i C e fr ho
  split at h
  case isFalse => cases h
  rename_i hc
  cases h
  exact .put hb hc.1 hc.2.1 (by rw [ho]; exact ⟨rfl, rfl⟩) cells_sh

theorem convertA_chg {s d : TypeId} {x : Value} (h : convertA P H s d x = some (v, H')) : Chg H H' := by
  unfold convertA at h
  repeat' split at h
  all_goals first | (cases h; done) | (cases h; exact .alloc cells_sh) | (cases h; exact .none) | exact markedA_chg h | skip
  all_goals
    simp only at h
    rename_i s' _ _ _ _ _ _
    cases hb : (Conv.runesFrom s' s'.size 0 #[]).toList.all flat1 <;> rw [hb] at h <;> cases h
    exact .alloc cells_sh

theorem appendA_chg {sT : TypeId} {xT : Option TypeId} {s x : Value} (h : appendA P H sT xT s x = some (v, H')) : Chg H H' := by
  unfold appendA at h
  split at h
  case h_2 => cases h
  split at h
  case h_2 => cases h
  split at h
  · split at h
    · cases h; exact .none
    · split at h <;> cases h; exact .none
    · split at h
      · rename_i hst; cases h; exact storeCellsA_chg hst
      · cases h
    · cases h
  · split at h
    case isFalse => cases h
    split at h
    · split at h <;> cases h; exact .alloc cells_sh
    · split at h
      case h_2 => cases h
      rename_i b old hs hb hr
      split at h
      case h_2 => cases h
      rename_i C e' lo hi ho
      split at h
      · cases h
      split at h
      · cases h; exact .alloc cells_sh
      rename_i hne
      split at h
      · cases h
        refine .copyOf hb ?_ cells_sh
        cases hx : b.exact with
        | false => rfl
        | true => exact absurd (.inl hx) hne
      · cases h

theorem nextA_chg {it : Value} (h : nextA H it = some (v, H')) : Chg H H' := by
  unfold nextA at h
  split at h
  case h_2 => cases h
  rename_i r
  split at h
  case h_2 => cases h
  rename_i b hb
  split at h
  case h_2 => cases h
  rename_i s pos hlt ho
  rw [Bool.and_eq_true] at hlt
  split at h
  · simp only [Option.some.injEq, Prod.mk.injEq] at h
    obtain ⟨_, rfl⟩ := h
    exact .put hb hlt.1 hlt.2 (by rw [ho]; trivial) trivial
  · cases h; exact .none

theorem callA_h {c : Call} (hcall : CallH call) (h : callA P call o c ρ H = some (v, H')) (hw : WfH H) : WfH H' ∧ HStep H H' := by
  unfold callA at h
  split at h
  · split at h
    case h_2 => cases h
    rename_i f first cap _
    cases hf : first.isEmpty <;> rw [hf] at h
    · cases h
    · exact hcall _ _ _ _ _ h hw
  · split at h
    · cases h; exact Chg.none.step hw
    · rename_i m _ _ _ _
      cases hm : mapRow H m with
      | none => rw [hm] at h; cases h
      | some es => rw [hm] at h; cases h; exact Chg.none.step hw
    · exact (chg_map h).step hw
  · split at h
    · exact (appendA_chg h).step hw
    · cases h
  · split at h
    · exact (copyA_chg h).step hw
    · cases h
  · exact (chg_map h).step hw

/-- WHAT ONE OPERATION DOES. -/
theorem evOp_h (hcall : CallH call) (h : evOp P call o ρ H = some (v, H')) (hw : WfH H) : WfH H' ∧ HStep H H' := by
  unfold evOp at h
  split at h
  case h_22 c _ => exact callA_h hcall h hw
  all_goals refine Chg.step ?_ hw
  all_goals first
    | (cases h; done)
    | (cases h; exact .none)
    | exact chg_map h
    | exact buildSliceA_chg h
    | exact makeSliceA_chg h
    | exact nextA_chg h
    | exact mapUpdate_chg h
    | skip
  case h_12 => have h := bif_some h; cases h; exact .alloc cells_sh
  case h_15 =>
    split at h
    · have h := bif_some h; cases h; exact .none
    · cases h
  case h_16 =>
    split at h
    · cases h
    · have h := bif_some h; cases h; exact .none
    · cases h
  case h_10 =>
    split at h
    case h_2 => cases h
    rename_i p _
    cases hs : storeA P H _ p (ρ _) with
    | none => rw [hs] at h; cases h
    | some H2 => rw [hs] at h; cases h; exact storeA_chg hs
  case h_18 =>
    split at h
    · rename_i r hr
      cases h
      exact convertA_chg hr
    · exact chg_map h
  all_goals split at h
  all_goals first
    | (cases h; done)
    | (cases h; exact .none)
    | (cases h; exact .alloc cells_sh)
    | (cases h; exact .alloc trivial)
    | exact chg_map h

def StepH (H H' : AH) : Prop := WfH H → WfH H' ∧ HStep H H'
theorem StepH.refl : StepH H H := fun hw => Chg.none.step hw
theorem StepH.trans {H1 H2 : AH} (h : StepH H H1) (k : StepH H1 H2) : StepH H H2 := fun hw => by
  obtain ⟨a, b⟩ := h hw
  obtain ⟨c, d⟩ := k a
  exact ⟨c, b.trans d⟩

theorem evOps_h (hcall : CallH call) {ops : Array Oper} : ∀ (l : List Oper) (e : List Value) (H : AH) (e' : List Value) (H' : AH), evOps P call ops l e H = some (e', H') → StepH H H'
  | [], e, H, e', H', h => by simp only [evOps] at h; cases h; exact .refl
  | o :: r, e, H, e', H', h => by
    unfold evOps at h
    split at h
    · split at h
      case h_2 => cases h
      rename_i v H1 ho
      exact StepH.trans (evOp_h hcall ho) (evOps_h hcall r _ _ _ _ h)
    · exact evOps_h hcall r _ _ _ _ h
    · cases h

def RegH (reg : Array Oper → Bool → List Value → AH → Option (List Value × AH)) : Prop := ∀ ops d e H e' H', reg ops d e H = some (e', H') → StepH H H'

theorem loopA_h {f : List Value → AH → Option (St × List Value × AH)} (hf : ∀ e H st e' H', f e H = some (st, e', H') → StepH H H') : ∀ (n : Nat) (e : List Value) (H : AH) (st : St) (e' : List Value) (H' : AH), loopA f n e H = some (st, e', H') → StepH H H'
  | 0, _, _, _, _, _, h => by cases h
  | n + 1, e, H, st, e', H', h => by
    unfold loopA at h
    split at h
    · rename_i e1 H1 h1
      exact (hf _ _ _ _ _ h1).trans (loopA_h hf n _ _ _ _ _ h)
    · exact hf _ _ _ _ _ h

theorem evCode_h {reg : Array Oper → Bool → List Value → AH → Option (List Value × AH)} (hreg : RegH reg) (n : Nat) : ∀ (c : Code) (e : List Value) (H : AH) (st : St) (e' : List Value) (H' : AH), evCode P reg n c e H = some (st, e', H') → StepH H H' := by
  intro c
  induction c with
  | skip => intro e H st e' H' h; simp only [evCode] at h; cases h; exact .refl
  | region id ops d =>
    intro e H st e' H' h
    simp only [evCode] at h
    split at h
    · rename_i e1 H1 hr; cases h; exact hreg _ _ _ _ _ _ hr
    · cases h
  | seq x y ihx ihy =>
    intro e H st e' H' h
    simp only [evCode] at h
    split at h
    · rename_i e1 H1 hx; exact (ihx _ _ _ _ _ hx).trans (ihy _ _ _ _ _ h)
    · exact ihx _ _ _ _ _ h
  | cond c x y ihx ihy =>
    intro e H st e' H' h
    simp only [evCode] at h
    split at h
    · exact ihx _ _ _ _ _ h
    · exact ihy _ _ _ _ _ h
    · cases h
  | block id c ih =>
    intro e H st e' H' h
    simp only [evCode] at h
    split at h
    · rename_i i e1 H1 hc
      split at h <;> cases h <;> exact ih _ _ _ _ _ hc
    · exact ih _ _ _ _ _ h
  | loop c ih =>
    intro e H st e' H' h
    simp only [evCode] at h
    exact loopA_h (fun e H st e' H' h => ih e H st e' H' h) n e H st e' H' h
  | scope c ih => intro e H st e' H' h; simp only [evCode] at h; exact ih e H st e' H' h
  | exit id => intro e H st e' H' h; simp only [evCode] at h; cases h; exact .refl
  | ret => intro e H st e' H' h; simp only [evCode] at h; cases h; exact .refl
  | rangeFunc g ps asg body iha ihb =>
    intro e H st e' H' h
    rw [evCode_range] at h
    obtain ⟨h9, rfl, rfl⟩ := map_st h
    obtain ⟨f, p0, p1, pb, a0, len, c, hg, hps, h1, h3, hbox, hle, hr⟩ := rangeA_some h9
    refine backA_rel (R := StepH) (fun _ => .refl) (fun _ _ _ => StepH.trans) (fun i x H H' hx => ?_) _ _ _ hr
    obtain ⟨e1, H1, e2, k1, k2⟩ := roundA_some hx
    exact (iha _ _ _ _ _ k1).trans (ihb _ _ _ _ _ k2)
  | _ => intro e H st e' H' h; simp only [evCode] at h; cases h

theorem evRegion_h {ff : FuncId → Bool} (hcall : CallH call) : RegH (evRegion P ff call) := by
  intro ops d e H e' H' h
  rcases evRegion_cases h with ⟨_, _, h⟩ | ⟨_, h⟩
  · obtain ⟨s, _, h1, _⟩ := permA_some h
    exact evOps_h hcall _ _ _ _ _ h1
  unfold evRegionT at h
  split at h
  case h_2 => cases h
  rename_i e1 H1 h1
  have h := bif_some h
  cases h
  exact evOps_h hcall _ _ _ _ _ h1

def PrimsH (prims : Prims) : Prop := ∀ f g, prims f = some g → ∀ call, CallH call → ∀ args H v H', g call args H = some (v, H') → StepH H H'

theorem evFn_h {prims : Prims} (hpr : PrimsH prims) : ∀ n, CallH (evFn P prims n) := by
  intro n
  induction n with
  | zero => intro f args H v H' h; cases h
  | succ n ih =>
    intro f args H v H' h
    unfold evFn at h
    split at h
    · rename_i g hg; exact hpr f g hg _ ih args H v H' h
    · split at h
      case h_2 => cases h
      split at h
      case h_2 => cases h
      rename_i c hb
      have hreg := evRegion_h (P := P) (ff := prims.flat) ih
      split at h
      all_goals first
        | (cases h; done)
        | (rename_i e1 H1 hc
           have h1 := evCode_h hreg n _ _ _ _ _ _ hc
           cases hv : resultsA P e1 H1 _ with
           | none => rw [hv] at h; cases h
           | some v0 => rw [hv] at h; cases h; exact h1)
end
end Go.Proofs.YtenolmhnmcjndaaGreatDoor.Ev
