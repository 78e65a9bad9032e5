/-
  Functions of the library by their contracts.
-/
import Derived.Test.YtofigleaealbjaaGreatDoorEvRun
import Derived.Below
namespace Go.Proofs.YtofigleaealbjaaGreatDoor.Ev
open Go Go.RowKit
section
variable {P : Program} {φ : Phi} {H H' : AH} {w w' : World}

theorem step_below (hs : Sim P φ H w) (hB : Below w.heap.size w w') : Step P φ H w φ H w' where
  h := HStep.refl hs.wf.shp
  ext := fun _ _ h => h
  old := fun _ _ h => h
  os := hB.os
  tape := hB.tape
  output := hB.output
  size := hB.size
  shape := fun r C e fr h => ⟨C, fr, by rw [hB.block r (Array.getElem?_eq_some_iff.1 h).1]; exact h, rfl⟩
  frame := fun r hr _ => hB.block r hr
  new := fun c r δ h h' => by rw [h] at h'; cases h'
  heads := fun _ _ _ _ => rfl

theorem sim_below (hs : Sim P φ H w) (hB : Below w.heap.size w w') : Sim P φ H w' where
  wf := hs.wf
  blk := hs.blk
  real := fun c r δ h => Nat.lt_of_lt_of_le (hs.real c r δ h) hB.size
  obj := fun c r δ b h hb hl => ObjR.mono (step_below hs hB) (hB.block r (hs.real c r δ h)) id (hs.obj c r δ b h hb hl)
  sep := hs.sep
  ends := hs.ends
  fix := ⟨Tabs_local (fun g hg => hB.block g (hs.fix.2 g hg).1) hs.fix.1, fun g hg => ⟨Nat.lt_of_lt_of_le (hs.fix.2 g hg).1 hB.size, (hs.fix.2 g hg).2⟩⟩

theorem good_below (hs : Sim P φ H w) (hB : Below w.heap.size w w') {v : Value} (hv : flatB v = true) : Good P φ H w H v v w' :=
  ⟨φ, step_below hs hB, sim_below hs hB, val_refl hv⟩

/-- A contract over values alone. -/
theorem prim_ok {f : FuncId} {g : List Value → AH → Option (Value × AH)} (hf : ∃ fn, P.funcs[f]? = some fn ∧ fn.body.isSome = true)
    (h : ∀ args H v H', g args H = some (v, H') → H' = H ∧ args.all flatB = true ∧ flatB v = true ∧ ∀ w, Tabs w → Calls P f args.toArray w fun e w' => e = .returned v ∧ Below w.heap.size w w') :
    CallOk P (fun f' args H => if f' = f then g args H else none) := by
  intro f' args H v H' hg
  simp only at hg
  split at hg
  · rename_i e
    subst e
    obtain ⟨rfl, ha, hv, hc⟩ := h args H v H' hg
    refine ⟨hf, fun φ w args' hs hn hrel => ?_⟩
    have : args' = args.toArray := by
      apply Array.ext'
      refine List.ext_getElem? fun i => ?_
      by_cases hi : i < args.length
      · have h1 : args[i]? = some args[i] := List.getElem?_eq_getElem hi
        have h2 : args'[i]? = some args'[i] := Array.getElem?_eq_getElem (by omega)
        rw [Array.getElem?_toList, h1, h2]
        exact congrArg some (val_eq (List.all_eq_true.1 ha _ (List.getElem_mem hi)) (hrel i _ _ h1 h2)).symm
      · have h1 : args'.toList[i]? = none := by rw [Array.getElem?_toList]; exact Array.getElem?_eq_none (by omega)
        have h2 : args.toArray.toList[i]? = none := by simp; omega
        rw [h1, h2]
    subst this
    exact (hc w hs.fix.1).mono fun e w' ⟨he, hB⟩ => ⟨v, he, good_below hs hB hv⟩
  · cases hg
end
end Go.Proofs.YtofigleaealbjaaGreatDoor.Ev
