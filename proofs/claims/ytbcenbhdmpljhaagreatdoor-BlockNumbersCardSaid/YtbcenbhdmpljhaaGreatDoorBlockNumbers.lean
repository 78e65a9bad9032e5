/- For every input the law BlockNumbers returns true, and all that it was given reads behind the call as it read before. -/
import Derived.Test.YtbcenbhdmpljhaaGreatDoorCards
import Derived.Test.YtbcenbhdmpljhaaGreatDoorTie
import Derived.WalkKit
import Derived.ProofKit
import Derived.OpenShut
import Derived.Deep.DeepHandedRow
import Derived.Lib.LaidTab
import Derived.Lib.LaidU8T
import Derived.Test.YtbcenbhdmpljhaaGreatDoorEvPost
import Derived.Test.YtbcenbhdmpljhaaGreatDoorEvBNL
namespace Go.Proofs.YtbcenbhdmpljhaaGreatDoor
open Go Go.ChangeShapes Go.WideShapes Go.ChangeAt Go.RowKit
namespace blockNumbers
theorem own : ownKnob Tryz.prog.godebug = none := by kernel_rfl
theorem laidOut : laidOutB Tryz.prog = true := by kernel_rfl

theorem tabs {W : World} (hL : laidMetH Tryz.prog Rows.blockNumbersRow.laid W) : Ev.Tabs W := by
  have e0 : Rows.blockNumbersRow.laid = [("unicode/utf8.acceptRanges", Lib.acceptData), ("unicode/utf8.first", Lib.firstData)] := by kernel_rfl
  have e1 : Rows.blockNumbersRow.laid.filter (fun x => x.2.handleName?.isSome) = [] := by kernel_rfl
  have e : laidMet Tryz.prog [("unicode/utf8.acceptRanges", Lib.acceptData), ("unicode/utf8.first", Lib.firstData)] W := by
    unfold laidMetH at hL
    rw [e1] at hL
    rw [← e0]; exact hL
  exact utf8Tabs_of_readsT (Go.Proofs.U8Types.mk (P := Tryz.prog) (ρ := Ev.lays160_ren) (by kernel_rfl) (by kernel_rfl) (by kernel_rfl) (by kernel_rfl)) ⟨by kernel_rfl, by kernel_rfl, by kernel_rfl, by kernel_rfl, by kernel_rfl, by kernel_rfl, by kernel_rfl⟩ (Lib.laidMet.reads e (.tail _ (.head _))) (Lib.laidMet.reads e (.head _))

set_option maxRecDepth 100000 in
theorem contract (K : Type) (enc : TypeId × Value → K) (W : World) (base : Nat) (args : Array Value) (ds gs : List (DataW K)) (before : List MemPlace)
    (hval : ∀ (j : Nat) t v, Tryz.f3.params[j]? = some t → args[j]? = some v → Value.okWide Tryz.prog W .any base t v)
    (hW : DataW.Whole enc Tryz.prog Tryz.f3.params.toList Rows.blockNumbersSpec.vars false W args.toList ds gs before) (hL : laidMetH Tryz.prog Rows.blockNumbersRow.laid W) :
    Calls Tryz.prog 3 args W fun e W' => ∃ v, e = .returned v ∧ Rows.blockNumbersSpec.post enc Tryz.prog Tryz.f3 false true false false W args v W' := by
  have hT := tabs hL
  have hW' := hW
  obtain ⟨p, q, hA0, hV, rfl, hfz, hnd⟩ := hW
  have hA : DataW.TrodAll enc Tryz.prog W 0 (fun _ => true) true Tryz.f3.params.toList args.toList ds p := hA0
  rw [Tryz.params3] at hA hval
  obtain ⟨hargs, rfl, rfl⟩ := trodAll_nil hA
  obtain rfl : args = #[] := by cases args; simp_all
  obtain ⟨rfl, rfl⟩ := trodVars_none hV
  have hsim := Ev.sim_empty (P := Tryz.prog) hT
  refine (Ev.numbers_calls W hT).mono fun e W' ⟨he, hB⟩ => ?_
  exact ⟨_, he, Ev.post_true laidOut (by rw [Tryz.params3]; intro t ht; simp only [List.not_mem_nil] at ht; skip) rfl hW' hB rfl Tryz.underlying4 rfl⟩

noncomputable def laidWorld (os : Os) : World :=
  let w0 := World.holding Tryz.prog os ⟨#[], #[], []⟩
  let put (h : Array Obj) (g : Nat) (cs : Array Value) : Array Obj := h.modify g fun
    | .cells _ t frozen => .cells cs t frozen
    | o => o
  let h1 := put w0.heap 1 (Lib.firstTab.map fun z => Value.int .u8 z).toArray
  let h2 := put h1 2 ((List.range 16).flatMap fun i => [Value.int .u8 (Lib.accLo i), Value.int .u8 (Lib.accHi i)]).toArray
  { w0 with heap := h2 }
theorem laid_met (os : Os) : laidMet Tryz.prog Rows.blockNumbersRow.laid ((laidWorld os).forCall (fun _ _ => 0) ⟨#[], #[], []⟩).memory :=
  laidMet_of_run' 8 (by kernel_rfl) (by kernel_rfl)
theorem reads (os : Os) {K : Type} (enc : TypeId × Value → K) : ∃ places, DataW.whole enc Tryz.prog ((laidWorld os).forCall (fun _ _ => 0) ⟨#[], #[], []⟩).memory Tryz.f3.params.toList Rows.blockNumbersSpec.vars false (#[] : Array Value).toList 8 = some ([], [], places) :=
  ⟨[], by kernel_rfl⟩

set_option maxRecDepth 100000 in
theorem lifted (os : Os) (started : os.Started) (K : Type) (enc : TypeId × Value → K) (F : Stop.Interp) :
    ReturnsInHanded {} Tryz.checked os 3 .any ((OpenSpec.ofChange Rows.blockNumbersSpec).preRow enc Tryz.prog Tryz.f3 Rows.blockNumbersRow.domain false Rows.blockNumbersRow.laid) (((OpenSpec.ofChange Rows.blockNumbersSpec).at F).post enc Tryz.prog Tryz.f3 false true false false) := by
  obtain ⟨places, hx⟩ := reads os enc
  refine returnsInHanded_of_row (C := Tryz.checked) (s := (OpenSpec.ofChange Rows.blockNumbersSpec)) own started (by kernel_rfl) Tryz.func3
    (witness_row_at (enc := enc) (C := Tryz.checked) false (laidWorld os) #[] rfl (by kernel_rfl) (by kernel_rfl) (by kernel_rfl)
      (OpenSpec.preRow_of_cond 8 hx (by kernel_rfl) (fun k hk => by cases hk) (by kernel_rfl) (laid_met os))) ?_
  intro W base args ds gs before hval hW _ hcond _ hL _ _
  exact contract K enc W base args ds gs before hval hW hL

theorem said : Rows.BlockNumbersSaid :=
  OpenClaim.holds_of_cond 3 Tryz.f3 rfl rfl rfl rfl rfl rfl rfl ⟨rfl, rfl, rfl, rfl, rfl⟩ rfl rfl rfl rfl rfl (by kernel_rfl) Tryz.func3 (by kernel_rfl)
    (of_decide_eq_true (by kernel_rfl)) (by unfold Func.isWrapper; first | (rw [if_pos (by decide +kernel)]; kernel_rfl) | (rw [if_neg (by decide +kernel)]; exact ⟨rfl, rfl⟩))
    (fun os started K enc _ F => by rw [OpenClaim.pre_eq_preRow]; exact lifted os started K enc F)

theorem plain (f : FuncId) (fn : Func) (hf : Tryz.pinned.checked.prog.funcNamed "selvedge/selvedgelaw7.BlockNumbers" = some f) (hfn : Tryz.pinned.checked.prog.funcs[f]? = some fn) :
    false = Tryz.pinned.checked.prog.looks [] ∧ ∀ (j : Nat) t, fn.params[j]? = some t → Tryz.pinned.checked.prog.wantsStandIn t = false := by
  obtain rfl : f = 3 := Option.some.inj ((show Tryz.prog.funcNamed "selvedge/selvedgelaw7.BlockNumbers" = some 3 by kernel_rfl).symm.trans hf) |>.symm
  obtain rfl : fn = Tryz.f3 := (Option.some.inj (Tryz.func3.symm.trans hfn)).symm
  refine ⟨by kernel_rfl, fun j t ht => ?_⟩
  rw [Tryz.params3] at ht
  simp at ht

/-- THE CARD. -/
theorem card : Rows.BlockNumbersCardSaid :=
  Claim7.holds_tied_plain_at .later [] _ _ _ _ said (fun _ h => by cases h) (by kernel_rfl) (fun _ h => by cases h) blockNumbers_row_tie rfl ⟨rfl, rfl⟩ (by kernel_rfl) rfl plain (by kernel_rfl)
end blockNumbers
end Go.Proofs.YtbcenbhdmpljhaaGreatDoor
