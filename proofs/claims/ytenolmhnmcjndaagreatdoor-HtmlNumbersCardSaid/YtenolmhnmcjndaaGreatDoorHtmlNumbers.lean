/- For every input the law HtmlNumbers returns true, and all that it was given reads behind the call as it read before. -/
import Derived.Test.YtenolmhnmcjndaaGreatDoorCards
import Derived.Test.YtenolmhnmcjndaaGreatDoorTie
import Derived.WalkKit
import Derived.ProofKit
import Derived.OpenShut
import Derived.Deep.DeepHandedRow
import Derived.Lib.LaidTab
import Derived.Lib.LaidU8T
import Derived.Test.YtenolmhnmcjndaaGreatDoorEvPost
import Derived.Test.YtenolmhnmcjndaaGreatDoorEvPowT
import Derived.Test.YtenolmhnmcjndaaGreatDoorEvHNL
namespace Go.Proofs.YtenolmhnmcjndaaGreatDoor
open Go Go.ChangeShapes Go.WideShapes Go.ChangeAt Go.RowKit
namespace htmlNumbers
theorem own : ownKnob Tryz.prog.godebug = none := by kernel_rfl
theorem laidOut : laidOutB Tryz.prog = true := by kernel_rfl

theorem tabs {W : World} (hL : laidMetH Tryz.prog Rows.htmlNumbersRow.laid W) : Ev.Tabs W := by
  have e0 : Rows.htmlNumbersRow.laid = [("math/bits.deBruijn32tab", Rows.laid_math_bits_deBruijn32tab), ("math/bits.deBruijn64tab", Rows.laid_math_bits_deBruijn64tab), ("internal/strconv.uint64pow10", Lib.tabData .u64 Lib.pow10Tab), ("unicode/utf8.acceptRanges", Lib.acceptData), ("unicode/utf8.first", Lib.firstData)] := by kernel_rfl
  have e1 : Rows.htmlNumbersRow.laid.filter (fun x => x.2.handleName?.isSome) = [] := by kernel_rfl
  have e : laidMet Tryz.prog [("math/bits.deBruijn32tab", Rows.laid_math_bits_deBruijn32tab), ("math/bits.deBruijn64tab", Rows.laid_math_bits_deBruijn64tab), ("internal/strconv.uint64pow10", Lib.tabData .u64 Lib.pow10Tab), ("unicode/utf8.acceptRanges", Lib.acceptData), ("unicode/utf8.first", Lib.firstData)] W := by
    unfold laidMetH at hL
    rw [e1] at hL
    rw [← e0]; exact hL
  exact ⟨utf8Tabs_of_readsT (Go.Proofs.U8Types.of196 Ev.lays196) ⟨by kernel_rfl, by kernel_rfl, by kernel_rfl, by kernel_rfl, by kernel_rfl, by kernel_rfl, by kernel_rfl⟩ (Lib.laidMet.reads e (.tail _ (.tail _ (.tail _ (.tail _ (.head _)))))) (Lib.laidMet.reads e (.tail _ (.tail _ (.tail _ (.head _))))),
    Ev.pow_of_reads (te := 289) (t := 338) (by kernel_rfl) (by kernel_rfl) Tryz.underlying338 Tryz.underlying289 (by kernel_rfl) (by kernel_rfl) (Lib.laidMet.reads e (.tail _ (.tail _ (.head _))))⟩

set_option maxRecDepth 100000 in
theorem contract (K : Type) (enc : TypeId × Value → K) (W : World) (base : Nat) (args : Array Value) (ds gs : List (DataW K)) (before : List MemPlace)
    (hval : ∀ (j : Nat) t v, Tryz.f4.params[j]? = some t → args[j]? = some v → Value.okWide Tryz.prog W .any base t v)
    (hW : DataW.Whole enc Tryz.prog Tryz.f4.params.toList Rows.htmlNumbersSpec.vars false W args.toList ds gs before) (hL : laidMetH Tryz.prog Rows.htmlNumbersRow.laid W) :
    Calls Tryz.prog 4 args W fun e W' => ∃ v, e = .returned v ∧ Rows.htmlNumbersSpec.post enc Tryz.prog Tryz.f4 false true false false W args v W' := by
  have hT := tabs hL
  have hW' := hW
  obtain ⟨p, q, hA0, hV, rfl, hfz, hnd⟩ := hW
  have hA : DataW.TrodAll enc Tryz.prog W 0 (fun _ => true) true Tryz.f4.params.toList args.toList ds p := hA0
  rw [Tryz.params4] at hA hval
  obtain ⟨hargs, rfl, rfl⟩ := trodAll_nil hA
  obtain rfl : args = #[] := by cases args; simp_all
  obtain ⟨rfl, rfl⟩ := trodVars_none hV
  have hsim := Ev.sim_empty (P := Tryz.prog) hT
  refine (Ev.numbers_calls W hT).mono fun e W' ⟨he, hB⟩ => ?_
  exact ⟨_, he, Ev.post_true laidOut (by rw [Tryz.params4]; intro t ht; simp only [List.not_mem_nil] at ht; skip) rfl hW' hB rfl Tryz.underlying4 rfl⟩

noncomputable def laidWorld (os : Os) : World :=
  let w0 := World.holding Tryz.prog os ⟨#[], #[], []⟩
  let put (h : Array Obj) (g : Nat) (cs : Array Value) : Array Obj := h.modify g fun
    | .cells _ t frozen => .cells cs t frozen
    | o => o
  let h1 := put w0.heap 0 (Lib.firstTab.map fun z => Value.int .u8 z).toArray
  let h2 := put h1 1 ((List.range 16).flatMap fun i => [Value.int .u8 (Lib.accLo i), Value.int .u8 (Lib.accHi i)]).toArray
  let h3 := put h2 3 (Lib.pow10Tab.map fun z => Value.int .u64 z).toArray
  let h4 := put h3 4 (([0, 1, 28, 2, 29, 14, 24, 3, 30, 22, 20, 15, 25, 17, 4, 8, 31, 27, 13, 23, 21, 19, 16, 7, 26, 12, 18, 6, 11, 5, 10, 9] : List Int).map fun z => Value.int .u8 z).toArray
  let h5 := put h4 5 (([0, 1, 56, 2, 57, 49, 28, 3, 61, 58, 42, 50, 38, 29, 17, 4, 62, 47, 59, 36, 45, 43, 51, 22, 53, 39, 33, 30, 24, 18, 12, 5, 63, 55, 48, 27, 60, 41, 37, 16, 46, 35, 44, 21, 52, 32, 23, 11, 54, 26, 40, 15, 34, 20, 31, 10, 25, 14, 19, 9, 13, 8, 7, 6] : List Int).map fun z => Value.int .u8 z).toArray
  { w0 with heap := h5 }
theorem laid_met (os : Os) : laidMet Tryz.prog Rows.htmlNumbersRow.laid ((laidWorld os).forCall (fun _ _ => 0) ⟨#[], #[], []⟩).memory :=
  laidMet_of_run' 8 (by kernel_rfl) (by kernel_rfl)
theorem reads (os : Os) {K : Type} (enc : TypeId × Value → K) : ∃ places, DataW.whole enc Tryz.prog ((laidWorld os).forCall (fun _ _ => 0) ⟨#[], #[], []⟩).memory Tryz.f4.params.toList Rows.htmlNumbersSpec.vars false (#[] : Array Value).toList 8 = some ([], [], places) :=
  ⟨[], by kernel_rfl⟩

set_option maxRecDepth 100000 in
theorem lifted (os : Os) (started : os.Started) (K : Type) (enc : TypeId × Value → K) (F : Stop.Interp) :
    ReturnsInHanded {} Tryz.checked os 4 .any ((OpenSpec.ofChange Rows.htmlNumbersSpec).preRow enc Tryz.prog Tryz.f4 Rows.htmlNumbersRow.domain false Rows.htmlNumbersRow.laid) (((OpenSpec.ofChange Rows.htmlNumbersSpec).at F).post enc Tryz.prog Tryz.f4 false true false false) := by
  obtain ⟨places, hx⟩ := reads os enc
  refine returnsInHanded_of_row (C := Tryz.checked) (s := (OpenSpec.ofChange Rows.htmlNumbersSpec)) own started (by kernel_rfl) Tryz.func4
    (witness_row_at (enc := enc) (C := Tryz.checked) false (laidWorld os) #[] rfl (by kernel_rfl) (by kernel_rfl) (by kernel_rfl)
      (OpenSpec.preRow_of_cond 8 hx (by kernel_rfl) (fun k hk => by cases hk) (by kernel_rfl) (laid_met os))) ?_
  intro W base args ds gs before hval hW _ hcond _ hL _ _
  exact contract K enc W base args ds gs before hval hW hL

theorem j1 : (Rows.htmlNumbersRow.inPlace == Tryz.prog.inPlace 4) = true := by kernel_rfl
theorem j2 : (Rows.htmlNumbersRow.unfollowed == Tryz.prog.unfollowed 4) = true := by kernel_rfl
theorem j3 : (Rows.htmlNumbersRow.recurses == Tryz.prog.recurses 4) = true := by kernel_rfl
theorem j4 : (Rows.htmlNumbersRow.named == Tryz.prog.varsNamed 4) = true := by kernel_rfl
theorem j5 : laidOutB Tryz.prog = true := by kernel_rfl
theorem j6 : mapsRowed Tryz.prog = true := by kernel_rfl
theorem j7 : Tryz.prog.stopsHeard = true := by kernel_rfl
theorem closed : joinedFacts Tryz.prog 4 Tryz.f4 (OpenSpec.ofChange Rows.htmlNumbersSpec).bare Rows.htmlNumbersRow = true := by
  unfold joinedFacts
  rw [j1, j2, j3, j4, j5, j6, j7]
  kernel_rfl
theorem said : Rows.HtmlNumbersSaid :=
  OpenClaim.holds_of_cond 4 Tryz.f4 rfl rfl rfl rfl rfl rfl rfl ⟨rfl, rfl, rfl, rfl, rfl⟩ rfl rfl rfl rfl rfl (by kernel_rfl) Tryz.func4 closed
    (of_decide_eq_true (by kernel_rfl)) (by unfold Func.isWrapper; first | (rw [if_pos (by decide +kernel)]; kernel_rfl) | (rw [if_neg (by decide +kernel)]; exact ⟨rfl, rfl⟩))
    (fun os started K enc _ F => by rw [OpenClaim.pre_eq_preRow]; exact lifted os started K enc F)

theorem plain (f : FuncId) (fn : Func) (hf : Tryz.pinned.checked.prog.funcNamed "selvedge/selvedgelaw13.HtmlNumbers" = some f) (hfn : Tryz.pinned.checked.prog.funcs[f]? = some fn) :
    true = Tryz.pinned.checked.prog.looks [] ∧ ∀ (j : Nat) t, fn.params[j]? = some t → Tryz.pinned.checked.prog.wantsStandIn t = false := by
  obtain rfl : f = 4 := Option.some.inj ((show Tryz.prog.funcNamed "selvedge/selvedgelaw13.HtmlNumbers" = some 4 by kernel_rfl).symm.trans hf) |>.symm
  obtain rfl : fn = Tryz.f4 := (Option.some.inj (Tryz.func4.symm.trans hfn)).symm
  refine ⟨by kernel_rfl, fun j t ht => ?_⟩
  rw [Tryz.params4] at ht
  simp at ht

/-- THE CARD. -/
theorem card : Rows.HtmlNumbersCardSaid :=
  Claim7.holds_tied_plain_at .later [] _ _ _ _ said (fun _ h => by cases h) (by kernel_rfl) (fun _ h => by cases h) htmlNumbers_row_tie rfl ⟨rfl, rfl⟩ (by kernel_rfl) rfl plain (by kernel_rfl)
end htmlNumbers
end Go.Proofs.YtenolmhnmcjndaaGreatDoor
